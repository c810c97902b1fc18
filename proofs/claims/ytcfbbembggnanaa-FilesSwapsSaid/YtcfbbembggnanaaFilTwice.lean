/- FilesTwice: the walk. -/
import Derived.Test.YtcfbbembggnanaaFilTwiceP
namespace Go.Proofs.Ytcfbbembggnanaa
open Go.RowKit Go.Maps
section
variable {B : Nat} {w W : World} {g : Nat} {S : FS}
/-- The disk behind the first crash: nothing is loose. -/
structure TwAt (B : Nat) (w W : World) (g : Nat) (P : FP) (st : Int) : Prop where
  at_ : FAt B [] w W g ⟨16777216, 0, st, true, P⟩
  firm : allFirm P
  used : usedP P ≤ 1048576
  len : P.length ≤ 3
theorem TwAt.okFs {P : FP} (h : allFirm P) (hu : usedP P ≤ 1048576) : ∀ d ∈ P, okF d.2 := fun d hd => ⟨Nat.le_of_eq (h d hd), by have := bs_used hd; omega⟩
theorem tw_crash (h : FAt B [] w W g S) (hn : (S.P.map Prod.fst).Nodup) {k size : Nat} (hF : TwSt k size S) (hs : size ≤ 1048576) (hk : k ≤ 1000) (A : Option Addr) (c : Nat) (ps : List Int) (hA : ARow w B A (ps.map (Value.int .i64))) (hc : ps.length ≤ c) (hpl : ps.length ≤ 4611686018427387904) (hpo : ∀ p ∈ ps, okI p) :
    Calls Try.prog 13 #[.pointer (some ⟨g, 0, none⟩), .slice A ps.length c] W fun e w' => e = .returned (.tuple #[]) ∧ ∃ P st, TwAt B w w' g P st := by
  have ok := hF.ok hn hk hs
  have hrow : ARow W W.heap.size A (ps.map (Value.int .i64)) := (hA.fr h.frame (Nat.le_refl _) (by simp)).mono h.lo
  refine (fat_crash h ok.len ok.files A c ps hrow (fun hne blk o e => .inr ?_) hc hpl hpo).mono fun e w' ⟨ns, h1, h2, h3, _⟩ => ⟨h2, crashP ns S.P ps, S.steps, ?_⟩
  · rcases hA with h | ⟨blk2, o2, h1, h2, h3⟩
    · simp at h; exact absurd h hne
    · rw [h1] at e; injection e with e; injection e with e1 e2; omega
  · obtain ⟨q1, q2⟩ := crash_all ns S.P ps hF.files fun d hd => .inl (h1.mem_iff.2 (List.mem_map.2 ⟨d, hd, rfl⟩))
    refine ⟨by rw [← hF.room]; exact h3, q1, by have := hF.used; omega, ?_⟩
    have := hF.len hn
    have h4 := congrArg List.length (crash_keys ns S.P ps)
    rw [List.length_map, List.length_map] at h4
    omega
theorem tw_crash2 {P : FP} {st : Int} (h : TwAt B w W g P st) :
    Calls Try.prog 13 #[.pointer (some ⟨g, 0, none⟩), .slice none 0 0] W fun e w' => e = .returned (.tuple #[]) ∧ TwAt B w w' g P st := by
  refine (fat_crash h.at_ (by have := h.len; show P.length ≤ _; omega) (TwAt.okFs h.firm h.used) none 0 [] (.inl rfl) (by simp) (by decide) (by decide) (by simp)).mono fun e w' ⟨ns, h1, h2, h3, _⟩ => ⟨h2, ?_, h.firm, h.used, h.len⟩
  have h4 : FAt B [] w w' g ⟨16777216, 0, st, true, crashP ns P []⟩ := h3
  rw [crash_firm h.firm] at h4
  exact h4
theorem tw_used {P : FP} {st : Int} (h : TwAt B w W g P st) : Calls Try.prog 15 #[.pointer (some ⟨g, 0, none⟩)] W fun e w' => e = .returned (.int .i64 (usedP P : Int)) ∧ TwAt B w w' g P st :=
  (fat_used h.at_ (by have := h.used; show usedP P ≤ _; omega)).mono fun _ _ ⟨h1, h2, _⟩ => ⟨h1, h2, h.firm, h.used, h.len⟩
theorem tw_read {P : FP} {st : Int} (h : TwAt B w W g P st) (x : Key) : Calls Try.prog 14 #[.pointer (some ⟨g, 0, none⟩), KV x] W fun e w' => e = .returned (.tuple #[strV (readP true P x), .int .i64 (thereP true P x)]) ∧ TwAt B w w' g P st :=
  (fat_read h.at_ x).mono fun _ _ ⟨h1, h2, _⟩ => ⟨h1, h2, h.firm, h.used, h.len⟩
theorem tw_on {P : FP} {st : Int} (h : TwAt B w W g P st) : Calls Try.prog 19 #[.pointer (some ⟨g, 0, none⟩)] W fun e w' => e = .returned (.bool true) ∧ W = w' := fat_on h.at_
end
set_option maxRecDepth 100000 in
set_option maxHeartbeats 16000000 in
theorem twice_law (w : World) (A B : Option Addr) (a b : Nat) (ts : List (List UInt8)) (ps : List Int) (hA : ARow w w.heap.size A (ts.map strV)) (hB : ARow w w.heap.size B (ps.map (Value.int .i64)))
    (hb : ∀ s ∈ ts, s.length ≤ 140737488351232) (hl2 : ps.length ≤ b) (hl3 : ps.length ≤ 140737488351232) (hok : ∀ p ∈ ps, okI p) :
    Calls Try.prog 6 #[.slice A ts.length a, .slice B ps.length b] w fun e w' => e = .returned (.bool true) ∧ Fr w.heap.size [] w w' := by
  go_enter Try.func6, Try.ntmps6
  go_upto_region 2 with (go_at_call 9; (with_reducible refine (awake_any w).mono ?_); rintro e w1 ⟨rfl, f1⟩)
  have c2 := fat_new w1 16777216
  rw [show roomE 16777216 = 16777216 by decide] at c2
  go_upto_region 5 with (go_at_call 10; (with_reducible refine c2.mono ?_); rintro e w2 ⟨rfl, h2⟩)
  have h3 := h2.base f1.size f1
  obtain ⟨G, hG⟩ : ∃ G, G = w1.heap.size := ⟨_, rfl⟩
  rw [← hG] at h3
  go_upto_region 6 with fail
  rw [← hG]
  clear c2 h2 hG
  go_wp2
  go_loopw [7, 8] (fun z i wr => ∃ (k size : Nat) (S : FS), k ≤ ts.length ∧ k ≤ 30 ∧ size ≤ 1048576 ∧ i = .int .i64 (k : Int) ∧ z = .int .i64 (size : Int) ∧ FAt w.heap.size [] w wr G S ∧ Hid (TwSt k size S)) (fun _ i _ => ts.length - (intOf i).toNat)
  case atStart => exact ⟨0, 0, _, by omega, by omega, by omega, rfl, rfl, h3, Lib.hid ⟨rfl, rfl, rfl, by simp, by simp [usedP], by simp, by simp⟩⟩
  case round =>
    obtain ⟨k, size, S, hk, hk30, hsz, rfl, rfl, hS, hF⟩ := hrel
    have hfr := hS.frame
    have cC := tw_crash hS hS.nod hF.out hsz (by omega) B b ps hB hl2 (by omega) hok
    clear hl2 hl3 hok hB
    by_cases hlt : k < ts.length
    · have hki : (k : Int) < ts.length := by omega
      by_cases h30 : k < 30
      · obtain ⟨blk, o, rfl, hbk, t0⟩ := text_of hA k hlt
        have hsl : ts[k].length ≤ 140737488351232 := hb _ (List.getElem_mem _)
        obtain ⟨pc, hpc⟩ : ∃ pc, Hid (pc = ts[k]'hlt) := ⟨ts[k]'hlt, rfl⟩
        rw [← hpc.out] at t0 hsl
        obtain ⟨sp, hsp, zp⟩ := strV_ex pc
        rw [hsp] at t0
        have hw1 : IntKind.i64.wrap ((size : Int) + pc.length) = size + pc.length := IntWalk.i64_in _ (by omega)
        have tr := (hfr.cell (p := ⟨blk, o + k, none⟩) hbk (by simp)).trans t0
        by_cases hbig : size + pc.length ≤ 1048576
        · have hd : decide ((size : Int) + pc.length > 1048576) = false := decide_eq_false (by omega)
          have hd2 : decide (1048576 < (size : Int) + pc.length) = false := hd
          have hnod := hS.nod
          have ok := hF.out.ok hnod (by omega) hsz
          clear hA hb cC t0
          rcases (by omega : k % 2 = 0 ∨ k % 2 = 1) with hj | hj
          · have hj2 : (k : Int).tmod 2 = 0 := by rw [Int.tmod_eq_emod_of_nonneg (by omega)]; omega
            have hj3 : (k : Int) % 2 = 0 := by omega
            obtain ⟨S', happ, g1, g2, g3, g4, g5, g6, g7, g8⟩ := hF.out.app hnod (x := ka) (by simp) pc hbig
            have cA := fat_append_lit hS ok.room ok.left ⟨ok.steps.1, by have := ok.steps.2; omega⟩ ok.used ka 1 [pc] (by simp) (by simp) (by simp; omega)
            simp only [List.flatten_cons, List.flatten_nil, List.append_nil] at cA
            rw [happ] at cA
            simp only [List.map_cons, List.map_nil, hsp, List.length_cons, List.length_nil, Nat.zero_add] at cA
            by_cases h5 : k % 5 = 4
            · have hm2 : (k : Int).tmod 5 = 4 := by rw [Int.tmod_eq_emod_of_nonneg (by omega)]; omega
              have hm3 : (k : Int) % 5 = 4 := by omega
              obtain ⟨S2, hs1, hs2⟩ := sync_tw (k := k) g1 g2 g3 g4 g5 g6 g7 (x := ka) (by simp) g8
              clear happ hF ok
              go_wp2_with (first
                | (go_at_call 12; (refine cS.mono ?_); rintro e w5 ⟨rfl, h5, -⟩)
                | (go_at_call 11; (refine cA.mono ?_); rintro e w4 ⟨rfl, h4, -⟩; have cS := fat_sync_lit h4 ⟨by (rw [g1]; decide), by (rw [g2]; decide), ⟨g4.1, by omega⟩, by omega, by (have := three h4.nod (x := ka) (y := kb) (z := kb) (fun a ha => by obtain ⟨d, hd, rfl⟩ := List.mem_map.1 ha; rcases g6 d hd with e | e; exact .inl e; exact .inr (.inl e)); rw [List.length_map] at this; omega), fun d hd => ⟨g7 d hd, by (have := bs_used hd; omega)⟩⟩ 1 [ka] (by simp); rw [hs1] at cS))
              exact ⟨⟨k + 1, size + pc.length, S2, by omega, by omega, by omega, by go_num, by go_num, h5, Lib.hid hs2⟩, by simp [intOf]; omega⟩
            · have hm2 : ((k : Int).tmod 5 == 4) = false := by rw [Int.tmod_eq_emod_of_nonneg (by omega), beq_eq_false_iff_ne]; omega
              have hm3 : ((k : Int) % 5 == 4) = false := by rw [beq_eq_false_iff_ne]; omega
              clear happ hF ok
              go_wp2_with (go_at_call 11; (refine cA.mono ?_); rintro e w4 ⟨rfl, h4, -⟩)
              exact ⟨⟨k + 1, size + pc.length, S', by omega, by omega, by omega, by go_num, by go_num, h4, Lib.hid ⟨g1, g2, g3, ⟨g4.1, by omega⟩, g5, g6, g7⟩⟩, by simp [intOf]; omega⟩
          · have hj2 : (k : Int).tmod 2 = 1 := by rw [Int.tmod_eq_emod_of_nonneg (by omega)]; omega
            have hj3 : (k : Int) % 2 = 1 := by omega
            obtain ⟨S', happ, g1, g2, g3, g4, g5, g6, g7, g8⟩ := hF.out.app hnod (x := kb) (by simp) pc hbig
            have cA := fat_append_lit hS ok.room ok.left ⟨ok.steps.1, by have := ok.steps.2; omega⟩ ok.used kb 1 [pc] (by simp) (by simp) (by simp; omega)
            simp only [List.flatten_cons, List.flatten_nil, List.append_nil] at cA
            rw [happ] at cA
            simp only [List.map_cons, List.map_nil, hsp, List.length_cons, List.length_nil, Nat.zero_add] at cA
            by_cases h5 : k % 5 = 4
            · have hm2 : (k : Int).tmod 5 = 4 := by rw [Int.tmod_eq_emod_of_nonneg (by omega)]; omega
              have hm3 : (k : Int) % 5 = 4 := by omega
              obtain ⟨S2, hs1, hs2⟩ := sync_tw (k := k) g1 g2 g3 g4 g5 g6 g7 (x := kb) (by simp) g8
              clear happ hF ok
              go_wp2_with (first
                | (go_at_call 12; (refine cS.mono ?_); rintro e w5 ⟨rfl, h5, -⟩)
                | (go_at_call 11; (refine cA.mono ?_); rintro e w4 ⟨rfl, h4, -⟩; have cS := fat_sync_lit h4 ⟨by (rw [g1]; decide), by (rw [g2]; decide), ⟨g4.1, by omega⟩, by omega, by (have := three h4.nod (x := ka) (y := kb) (z := kb) (fun a ha => by obtain ⟨d, hd, rfl⟩ := List.mem_map.1 ha; rcases g6 d hd with e | e; exact .inl e; exact .inr (.inl e)); rw [List.length_map] at this; omega), fun d hd => ⟨g7 d hd, by (have := bs_used hd; omega)⟩⟩ 1 [kb] (by simp); rw [hs1] at cS))
              exact ⟨⟨k + 1, size + pc.length, S2, by omega, by omega, by omega, by go_num, by go_num, h5, Lib.hid hs2⟩, by simp [intOf]; omega⟩
            · have hm2 : ((k : Int).tmod 5 == 4) = false := by rw [Int.tmod_eq_emod_of_nonneg (by omega), beq_eq_false_iff_ne]; omega
              have hm3 : ((k : Int) % 5 == 4) = false := by rw [beq_eq_false_iff_ne]; omega
              clear happ hF ok
              go_wp2_with (go_at_call 11; (refine cA.mono ?_); rintro e w4 ⟨rfl, h4, -⟩)
              exact ⟨⟨k + 1, size + pc.length, S', by omega, by omega, by omega, by go_num, by go_num, h4, Lib.hid ⟨g1, g2, g3, ⟨g4.1, by omega⟩, g5, g6, g7⟩⟩, by simp [intOf]; omega⟩
        · have hd : decide ((size : Int) + pc.length > 1048576) = true := decide_eq_true (by omega)
          have hd2 : decide (1048576 < (size : Int) + pc.length) = true := hd
          clear hA hb hF
          go_wp2_with (first
            | (go_at_call 19; (refine (tw_on v9).mono ?_); rintro e w99 ⟨rfl, rfl⟩)
            | (go_at_call 15; (refine (tw_used v8).mono ?_); rintro e w98 ⟨rfl, v9⟩)
            | (go_at_call 14; (refine c7.mono ?_); rintro e w97 ⟨rfl, v8⟩)
            | (go_at_call 14; (refine c6.mono ?_); rintro e w96 ⟨rfl, v7⟩; have c7 := tw_read v7 kb; rw [hsb] at c7)
            | (go_at_call 13; (refine (tw_crash2 v5).mono ?_); rintro e w95 ⟨rfl, v6⟩; have c6 := tw_read v6 ka; rw [hsa] at c6)
            | (go_at_call 14; (refine c5.mono ?_); rintro e w94 ⟨rfl, v5⟩)
            | (go_at_call 14; (refine c4.mono ?_); rintro e w93 ⟨rfl, v4⟩; obtain ⟨sb, hsb, -⟩ := strV_ex (readP true P kb); have c5 := tw_read v4 kb; rw [hsb] at c5)
            | (go_at_call 15; (refine (tw_used v2).mono ?_); rintro e w92 ⟨rfl, v3⟩; obtain ⟨sa, hsa, -⟩ := strV_ex (readP true P ka); have c4 := tw_read v3 ka; rw [hsa] at c4)
            | (go_at_call 13; (refine cC.mono ?_); rintro e w91 ⟨rfl, P, st, v2⟩))
          go_ret
          exact ⟨rfl, v9.at_.frame⟩
      · obtain rfl : k = 30 := by omega
        clear hA hb hF
        go_wp2_with (first
          | (go_at_call 19; (refine (tw_on v9).mono ?_); rintro e w99 ⟨rfl, rfl⟩)
          | (go_at_call 15; (refine (tw_used v8).mono ?_); rintro e w98 ⟨rfl, v9⟩)
          | (go_at_call 14; (refine c7.mono ?_); rintro e w97 ⟨rfl, v8⟩)
          | (go_at_call 14; (refine c6.mono ?_); rintro e w96 ⟨rfl, v7⟩; have c7 := tw_read v7 kb; rw [hsb] at c7)
          | (go_at_call 13; (refine (tw_crash2 v5).mono ?_); rintro e w95 ⟨rfl, v6⟩; have c6 := tw_read v6 ka; rw [hsa] at c6)
          | (go_at_call 14; (refine c5.mono ?_); rintro e w94 ⟨rfl, v5⟩)
          | (go_at_call 14; (refine c4.mono ?_); rintro e w93 ⟨rfl, v4⟩; obtain ⟨sb, hsb, -⟩ := strV_ex (readP true P kb); have c5 := tw_read v4 kb; rw [hsb] at c5)
          | (go_at_call 15; (refine (tw_used v2).mono ?_); rintro e w92 ⟨rfl, v3⟩; obtain ⟨sa, hsa, -⟩ := strV_ex (readP true P ka); have c4 := tw_read v3 ka; rw [hsa] at c4)
          | (go_at_call 13; (refine cC.mono ?_); rintro e w91 ⟨rfl, P, st, v2⟩))
        go_ret
        exact ⟨rfl, v9.at_.frame⟩
    · obtain rfl : k = ts.length := by omega
      have hki : ¬ ((ts.length : Int) < ts.length) := by omega
      clear hA hb hF
      go_wp2_with (first
        | (go_at_call 19; (refine (tw_on v9).mono ?_); rintro e w99 ⟨rfl, rfl⟩)
        | (go_at_call 15; (refine (tw_used v8).mono ?_); rintro e w98 ⟨rfl, v9⟩)
        | (go_at_call 14; (refine c7.mono ?_); rintro e w97 ⟨rfl, v8⟩)
        | (go_at_call 14; (refine c6.mono ?_); rintro e w96 ⟨rfl, v7⟩; have c7 := tw_read v7 kb; rw [hsb] at c7)
        | (go_at_call 13; (refine (tw_crash2 v5).mono ?_); rintro e w95 ⟨rfl, v6⟩; have c6 := tw_read v6 ka; rw [hsa] at c6)
        | (go_at_call 14; (refine c5.mono ?_); rintro e w94 ⟨rfl, v5⟩)
        | (go_at_call 14; (refine c4.mono ?_); rintro e w93 ⟨rfl, v4⟩; obtain ⟨sb, hsb, -⟩ := strV_ex (readP true P kb); have c5 := tw_read v4 kb; rw [hsb] at c5)
        | (go_at_call 15; (refine (tw_used v2).mono ?_); rintro e w92 ⟨rfl, v3⟩; obtain ⟨sa, hsa, -⟩ := strV_ex (readP true P ka); have c4 := tw_read v3 ka; rw [hsa] at c4)
        | (go_at_call 13; (refine cC.mono ?_); rintro e w91 ⟨rfl, P, st, v2⟩))
      go_ret
      exact ⟨rfl, v9.at_.frame⟩
end Go.Proofs.Ytcfbbembggnanaa
