/- FilesFirm: the walk. -/
import Derived.Test.YtcfbbembggnanaaFilFirmP
namespace Go.Proofs.Ytcfbbembggnanaa
open Go.RowKit Go.Maps
theorem strV_ex (l : List UInt8) : ∃ s : ByteArray, strV l = .string s ∧ s.size = l.length := ⟨⟨l.toArray⟩, rfl, strV_len l⟩
theorem firm_same {l : List UInt8} {m : Nat} {s t : ByteArray} (h1 : strV l = .string s) (h2 : strV (l.take m) = .string t) : (t.toList == (s.extract 0 m).toList) = true := by
  have := strV_take h1 m
  rw [h2] at this
  injection this with this
  rw [this]
  simp
section
variable {B : Nat} {K : List Nat} {w W : World} {g : Nat} {st : Int} {wh : List UInt8} {n : Nat}
theorem fat_crash_f (h : FAt B K w W g (oneS st wh n)) (ok : FOk (oneS st wh n)) (hn : n ≤ wh.length) (p : Int) (hp : okI p) :
    Calls Try.prog 13 #[.pointer (some ⟨g, 0, none⟩), .slice (some ⟨W.heap.size, 0, none⟩) 1 1] (W.alloc (.cells #[.int .i64 p] 3)) fun e w' => e = .returned (.tuple #[]) ∧ ∃ m, n ≤ m ∧ m ≤ wh.length ∧ FAt B K w w' g (oneS st (wh.take m) m) := by
  have := fat_crash_lit h ok.len ok.files 1 [p] (by simp) (by simp) (by simpa using hp)
  simp only [List.map_cons, List.map_nil, List.length_cons, List.length_nil, Nat.zero_add] at this
  refine this.mono fun e w' ⟨ns, h1, h2, h3, _⟩ => ⟨h2, ?_⟩
  obtain rfl : ns = [kf] := List.perm_singleton.1 h1
  obtain ⟨m, q1, q2, q3⟩ := crash_f wh n p hn
  refine ⟨m, q1, q2, ?_⟩
  have h4 : FAt B K w w' g ⟨16777216, 0, st, true, crashP [kf] [(kf, (⟨wh, n⟩ : Fl))] [p]⟩ := h3
  rw [q3] at h4
  exact h4
theorem fat_read_f (h : FAt B K w W g (oneS st wh n)) : Calls Try.prog 14 #[.pointer (some ⟨g, 0, none⟩), KV kf] W fun e w' => e = .returned (.tuple #[strV wh, .int .i64 0]) ∧ FAt B K w w' g (oneS st wh n) ∧ Kp K W w' := by
  have := fat_read h kf
  have e1 : readP (oneS st wh n).on (oneS st wh n).P kf = wh := read_f _
  have e2 : thereP (oneS st wh n).on (oneS st wh n).P kf = 0 := there_f _
  rw [e1, e2] at this
  exact this
end
set_option maxRecDepth 100000 in
set_option maxHeartbeats 8000000 in
theorem firm_law (w : World) (A B C : Option Addr) (a b c : Nat) (ts : List (List UInt8)) (hs ps : List Int) (hA : ARow w w.heap.size A (ts.map strV)) (hB : ARow w w.heap.size B (hs.map (Value.int .i64))) (hC : ARow w w.heap.size C (ps.map (Value.int .i64)))
    (hl : ts.length ≤ 8796093022208) (hb : ∀ s ∈ ts, s.length ≤ 140737488351232) (hok : ∀ p ∈ ps, okI p) :
    Calls Try.prog 3 #[.slice A ts.length a, .slice B hs.length b, .slice C ps.length c] w fun e w' => e = .returned (.bool true) ∧ Fr w.heap.size [] w w' := by
  go_enter Try.func3, Try.ntmps3
  go_upto_region 2 with (go_at_call 9; (with_reducible refine (awake_any w).mono ?_); rintro e w1 ⟨rfl, f1⟩)
  have c2 := fat_new w1 16777216
  rw [show roomE 16777216 = 16777216 by decide] at c2
  go_upto_region 5 with (go_at_call 10; (with_reducible refine c2.mono ?_); rintro e w2 ⟨rfl, h2⟩)
  have h3 := h2.base f1.size f1
  obtain ⟨G, hG⟩ : ∃ G, G = w1.heap.size := ⟨_, rfl⟩
  rw [← hG] at h3
  go_upto_region 6 with fail
  rw [← hG]
  clear c2 h2 hG
  go_wp2
  go_loopw [9, 10, 11] (fun sf sw i wr => ∃ (k : Nat) (S : FS) (f wh : List UInt8), k ≤ ts.length ∧ k ≤ 60 ∧ i = .int .i64 (k : Int) ∧ sf = strV f ∧ sw = strV wh ∧ FAt w.heap.size [] w wr G S ∧ Hid (FirmSt k S f wh)) (fun _ _ i _ => ts.length - (intOf i).toNat)
  case atStart => exact ⟨0, noneS, [], [], by omega, by omega, rfl, rfl, rfl, h3, Lib.hid ⟨by simp, by simp, .inr ⟨rfl, rfl, rfl⟩⟩⟩
  case round =>
    obtain ⟨k, S, f, wh, hk, hk60, rfl, rfl, rfl, hS, hF⟩ := hrel
    have hfr := hS.frame
    obtain ⟨sf, hsf, zf⟩ := strV_ex f
    obtain ⟨sw, hsw, zw⟩ := strV_ex wh
    have hlw := hF.out.len
    have hlf := hF.out.le
    rw [hsf, hsw]
    by_cases hlt : k < ts.length
    · have hki : (k : Int) < ts.length := by omega
      by_cases h60 : k < 60
      · obtain ⟨blk, o, rfl, hbk, t0⟩ := text_of hA k hlt
        have hsl : ts[k].length ≤ 140737488351232 := hb _ (List.getElem_mem _)
        obtain ⟨pc, hpc⟩ : ∃ pc, Hid (pc = ts[k]'hlt) := ⟨ts[k]'hlt, rfl⟩
        rw [← hpc.out] at t0 hsl
        obtain ⟨sp, hsp, zp⟩ := strV_ex pc
        rw [hsp] at t0
        have hw1 : IntKind.i64.wrap ((wh.length : Int) + pc.length) = wh.length + pc.length := IntWalk.i64_in _ (by omega)
        have tr := (hfr.cell (p := ⟨blk, o + k, none⟩) hbk (by simp)).trans t0
        by_cases hbig : wh.length + pc.length ≤ 1048576
        · obtain ⟨st, happ, hst0, hst1⟩ := hF.out.app pc hbig
          have ok := hF.out.ok hk60
          have cA := fat_append_lit hS ok.room ok.left ⟨ok.steps.1, by have := ok.steps.2; omega⟩ ok.used kf 1 [pc] (by simp) (by simp) (by simp; omega)
          rw [happ] at cA
          simp only [List.map_cons, List.map_nil, hsp, List.length_cons, List.length_nil, Nat.zero_add] at cA
          have hd : decide ((wh.length : Int) + pc.length > 1048576) = false := by simp; omega
          have hd2 : decide (1048576 < (wh.length : Int) + pc.length) = false := hd
          have hno : ¬ (9223372036854775807 < sw.size + sp.size) := by omega
          have hsw2 : strV (wh ++ pc) = .string (sw ++ sp) := (strV_app _ _ _ _ hsw hsp).symm
          have hz2 : (wh ++ pc).length = wh.length + pc.length := List.length_append
          clear happ ok hA hb t0
          go_upto_region 13 with (go_at_call 11; (refine cA.mono ?_); rintro e w4 ⟨rfl, h4, -⟩)
          have hf4 := h4.frame
          have t4 := (hf4.cell (p := ⟨blk, o + k, none⟩) hbk (by simp)).trans (((hfr.cell (p := ⟨blk, o + k, none⟩) hbk (by simp)).symm.trans tr))
          clear cA tr hS hfr
          have ok4 := one_ok (st := st) (wh := wh ++ pc) (n := f.length) (by omega) (by omega) hst0 (by omega)
          by_cases hi : k < hs.length
          · have hii : (k : Int) < hs.length := by omega
            obtain ⟨bl2, o2, rfl, hb2, q0⟩ := num_of hB k hi
            obtain ⟨q, hq⟩ : ∃ q, hs[k] = q := ⟨_, rfl⟩
            rw [hq] at q0
            have q4 := (hf4.cell (p := ⟨bl2, o2 + k, none⟩) hb2 (by simp)).trans q0
            obtain ⟨m, hm⟩ : ∃ m, q.tmod 4 = m := ⟨_, rfl⟩
            have hm1 : -4 < m ∧ m < 4 := by rw [← hm]; exact ⟨Int.lt_tmod_of_pos q (by decide), Int.tmod_lt_of_pos q (by decide)⟩
            have hwm : IntKind.i64.wrap m = m := IntWalk.i64_in _ (by omega)
            clear hq q0 hB
            by_cases h1 : m = 1
            · subst h1
              have cS := fat_sync_lit h4 ok4 1 [kf] (by simp)
              rw [sync_f] at cS
              clear hF hC ok4 hwm hm1
              go_wp2_with (go_at_call 12; (refine cS.mono ?_); rintro e w5 ⟨rfl, h5, -⟩)
              exact ⟨⟨k + 1, _, wh ++ pc, wh ++ pc, by omega, by omega, by go_num, by rw [hsw2], by rw [hsw2], h5, Lib.hid ⟨by omega, Nat.le_refl _, .inl ⟨st + 1, rfl, by omega, by omega⟩⟩⟩, by simp [intOf]; omega⟩
            · by_cases h2 : m = 2
              · subst h2
                by_cases hp : k < ps.length
                · have hpi : (k : Int) < ps.length := by omega
                  obtain ⟨bl3, o3, rfl, hb3, p0⟩ := num_of hC k hp
                  have hokp := hok _ (List.getElem_mem hp)
                  obtain ⟨pk, hpk⟩ : ∃ pk, ps[k] = pk := ⟨_, rfl⟩
                  rw [hpk] at p0 hokp
                  have p4 := (hf4.cell (p := ⟨bl3, o3 + k, none⟩) hb3 (by simp)).trans p0
                  have cC := fat_crash_f h4 ok4 (by omega) pk hokp
                  clear hpk p0 hC ok4 hok hF
                  go_wp2_with (first
                    | (go_at_call 14; (refine cR.mono ?_); rintro e w6 ⟨rfl, h6, -⟩)
                    | (go_at_call 13; (refine cC.mono ?_); rintro e w5 ⟨rfl, m', hm1, hm2, h5⟩; obtain ⟨ss, hss, zs0⟩ := strV_ex ((wh ++ pc).take m'); have zs : ss.size = m' := zs0.trans (List.length_take_of_le (by omega)); have cR := fat_read_f h5; rw [hss] at cR; have d1 : decide ((m' : Int) < f.length) = false := decide_eq_false (by omega); have d2 : decide ((m' : Int) > wh.length + pc.length) = false := decide_eq_false (by omega); have d4 : decide (m' < f.length) = false := decide_eq_false (by omega); have d3 := firm_same hsw2 hss; have hlt' : m' ≤ wh.length + pc.length := (by omega); have hss2 := Lib.hid hss; clear hss zs0))
                  exact ⟨⟨k + 1, _, (wh ++ pc).take m', (wh ++ pc).take m', by omega, by omega, by go_num, hss2.out.symm, hss2.out.symm, h6, Lib.hid ⟨by rw [List.length_take]; omega, Nat.le_refl _, .inl ⟨st, by rw [List.length_take, Nat.min_eq_left (by omega)], by omega, by omega⟩⟩⟩, by simp [intOf]; omega⟩
                · have hpi : ¬ ((k : Int) < ps.length) := by omega
                  have cC := fat_crash_f h4 ok4 (by omega) 0 (by simp [okI])
                  clear hC ok4 hok hF
                  go_wp2_with (first
                    | (go_at_call 14; (refine cR.mono ?_); rintro e w6 ⟨rfl, h6, -⟩)
                    | (go_at_call 13; (refine cC.mono ?_); rintro e w5 ⟨rfl, m', hm1, hm2, h5⟩; obtain ⟨ss, hss, zs0⟩ := strV_ex ((wh ++ pc).take m'); have zs : ss.size = m' := zs0.trans (List.length_take_of_le (by omega)); have cR := fat_read_f h5; rw [hss] at cR; have d1 : decide ((m' : Int) < f.length) = false := decide_eq_false (by omega); have d2 : decide ((m' : Int) > wh.length + pc.length) = false := decide_eq_false (by omega); have d4 : decide (m' < f.length) = false := decide_eq_false (by omega); have d3 := firm_same hsw2 hss; have hlt' : m' ≤ wh.length + pc.length := (by omega); have hss2 := Lib.hid hss; clear hss zs0))
                  exact ⟨⟨k + 1, _, (wh ++ pc).take m', (wh ++ pc).take m', by omega, by omega, by go_num, hss2.out.symm, hss2.out.symm, h6, Lib.hid ⟨by rw [List.length_take]; omega, Nat.le_refl _, .inl ⟨st, by rw [List.length_take, Nat.min_eq_left (by omega)], by omega, by omega⟩⟩⟩, by simp [intOf]; omega⟩
              · have g1 : (m == 1) = false := by simpa using h1
                have g2 : (m == 2) = false := by simpa using h2
                clear hC ok4 hwm hm1
                go_wp2
                exact ⟨⟨k + 1, _, f, wh ++ pc, by omega, by omega, by go_num, hsf.symm, by rw [hsw2], h4, Lib.hid ⟨by omega, by omega, .inl ⟨st, rfl, by omega, by omega⟩⟩⟩, by simp [intOf]; omega⟩
          · have hii : ¬ ((k : Int) < hs.length) := by omega
            clear hC hB ok4
            go_wp2
            exact ⟨⟨k + 1, _, f, wh ++ pc, by omega, by omega, by go_num, hsf.symm, by rw [hsw2], h4, Lib.hid ⟨by omega, by omega, .inl ⟨st, rfl, by omega, by omega⟩⟩⟩, by simp [intOf]; omega⟩
        · have hd : decide ((wh.length : Int) + pc.length > 1048576) = true := by simp; omega
          have hd2 : decide (1048576 < (wh.length : Int) + pc.length) = true := hd
          go_wp2
          go_ret
          exact ⟨rfl, hfr⟩
      · obtain rfl : k = 60 := by omega
        go_wp2
        go_ret
        exact ⟨rfl, hfr⟩
    · obtain rfl : k = ts.length := by omega
      have hki : ¬ ((ts.length : Int) < ts.length) := by omega
      go_wp2
      go_ret
      exact ⟨rfl, hfr⟩
end Go.Proofs.Ytcfbbembggnanaa
