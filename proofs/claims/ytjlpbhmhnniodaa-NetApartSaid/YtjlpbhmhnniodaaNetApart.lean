/- NetApart: the walk. -/
import Derived.Test.YtjlpbhmhnniodaaNetFull
import Derived.Test.YtjlpbhmhnniodaaNetPlain
import Derived.Test.YtjlpbhmhnniodaaNetOpens
namespace Go.Proofs.Ytjlpbhmhnniodaa
open Go.RowKit Go.Maps
open Nt
theorem pair_cells {w : World} {N : Nat} {A : Option Addr} {us : List Pair} (h : ARow w N A (us.flatMap pcells)) (k : Nat) (hk : k < us.length) : ∃ blk o, A = some ⟨blk, o, none⟩ ∧ blk < N ∧
    w.cell? ⟨blk, o + k * 2, none⟩ = some (.int .i64 us[k].1) ∧ w.cell? ⟨blk, o + k * 2 + 1, none⟩ = some (.int .i64 us[k].2) := by
  obtain ⟨blk, o, hA, hb, hc⟩ := h.at (c := 2) (fun _ => rfl) (by decide) k hk
  exact ⟨blk, o, hA, hb, hc 0 _ rfl, hc 1 _ rfl⟩
theorem beq_dec (a b : Int) : (a == b) = decide (a = b) := rfl
theorem bne_dec (a b : Int) : (a != b) = decide (a ≠ b) := by rw [bne, beq_dec, ← decide_not]
/-- The message of the pair in place j. -/
def Nt.apM (ps : List Pair) (j : Nat) : Msg := ⟨(j : Int) + 1, (q4 (ps.getD j (0, 0))).1, (q4 (ps.getD j (0, 0))).2, ⟨#[120]⟩⟩
def Nt.apMs (ps : List Pair) (k : Nat) : List Msg := (List.range k).map (apM ps)
theorem Nt.apMs_succ (ps : List Pair) (k : Nat) : apMs ps (k + 1) = apMs ps k ++ [apM ps k] := by unfold apMs; rw [List.range_succ, List.map_append]; rfl
theorem Nt.apMs_len (ps : List Pair) (k : Nat) : (apMs ps k).length = k := by simp [apMs]
theorem Nt.apMs_send (ps : List Pair) (k : Nat) (hk : k < 40) : sendS (q4 (ps.getD k (0, 0))).1 (q4 (ps.getD k (0, 0))).2 [⟨#[120]⟩] (k : Int) (apMs ps k) = (((k + 1 : Nat) : Int), apMs ps (k + 1), 1) := by
  unfold sendS
  rw [if_neg (by rw [apMs_len]; omega), apMs_succ]
  rfl
theorem Nt.apMs_once (ps : List Pair) (k : Nat) : Once (apMs ps k) := by
  unfold Once apMs
  rw [List.map_map]
  exact List.pairwise_map.2 (List.nodup_range.imp fun h e => h (by simp only [apM, Function.comp] at e; omega))
theorem Nt.apMs_may (ps : List Pair) (k : Nat) (E : List Pair) : ((apMs ps (k + 1)).filter (wantB (cutsS E) [])).length = ((apMs ps k).filter (wantB (cutsS E) [])).length + (!cutB (q4 (ps.getD k (0, 0))).1 (q4 (ps.getD k (0, 0))).2 E).toNat := by
  rw [apMs_succ, List.filter_append, List.length_append]
  congr 1
  have : wantB (cutsS E) [] (apM ps k) = !cutB (q4 (ps.getD k (0, 0))).1 (q4 (ps.getD k (0, 0))).2 E := by
    unfold wantB
    rw [show (apM ps k).src = (q4 (ps.getD k (0, 0))).1 from rfl, show (apM ps k).dst = (q4 (ps.getD k (0, 0))).2 from rfl, join_cuts]
    simp
  rw [List.filter_cons, this]
  cases cutB (q4 (ps.getD k (0, 0))).1 (q4 (ps.getD k (0, 0))).2 E <;> rfl
set_option maxHeartbeats 4000000 in
set_option maxRecDepth 100000 in
theorem apart_law (w : World) (A1 : Option Addr) (c1 : Nat) (ps : List Pair) (A2 : Option Addr) (c2 : Nat) (cs : List Pair) (hA1 : ARow w w.heap.size A1 (ps.flatMap pcells)) (hA2 : ARow w w.heap.size A2 (cs.flatMap pcells)) :
    Calls Try.prog 6 #[.slice A1 ps.length c1, .slice A2 cs.length c2] w fun e w' => e = .returned (.bool true) ∧ Fr w.heap.size [] w w' := by
  go_enter Try.func6, Try.ntmps6
  go_wp2_with (first
    | (go_at_call 8; (refine (at_new w1).mono ?_); rintro e w2 ⟨rfl, h2⟩)
    | (go_at_call 7; (refine (awake_any w).mono ?_); rintro e w1 ⟨rfl, f1⟩))
  have h3 := h2.base f1.size f1
  clear h2
  obtain ⟨G, hG⟩ : ∃ G, G = w1.heap.size := ⟨_, rfl⟩
  rw [← hG] at h3
  have hGs : w1.heap.size = G := hG.symm
  rw [hGs]
  clear hG hGs
  go_loopw [7] (fun i wr => ∃ k : Nat, k ≤ cs.length ∧ k ≤ 10 ∧ i = .int .i64 (k : Int) ∧ At w.heap.size [] w wr G 0 [] (cutsS ((cs.take k).map q4))) (fun i _ => 10 - (intOf i).toNat)
  case atStart => exact ⟨0, by omega, by omega, rfl, h3⟩
  case round =>
    obtain ⟨k, hk, hk10, rfl, h⟩ := hrel
    by_cases hlt : k < cs.length ∧ k < 10
    · obtain ⟨hl1, hl2⟩ := hlt
      have hki : (k : Int) < cs.length := by omega
      have hkj : (k : Int) < 10 := by omega
      obtain ⟨blk, o, rfl, hbk, d0, d1⟩ := pair_cells (hA2.fr h.frame (Nat.le_refl _) (by simp)) k hl1
      obtain ⟨p, hp⟩ : ∃ p, p = cs[k]'hl1 := ⟨_, rfl⟩
      rw [← hp] at d0 d1
      have hnew : cutS (cutsS ((cs.take k).map q4)) (p.1 % 4) (p.2 % 4) = cutsS ((cs.take (k + 1)).map q4) := by
        rw [List.take_succ_eq_append_getElem hl1, List.map_append, ← hp, List.map_cons, List.map_nil]
        exact (cutsS_snoc _ (q4 p)).symm
      clear hp
      obtain ⟨hok1, hok2⟩ := q4_ok p
      obtain ⟨x, y⟩ := p
      simp only [q4] at d0 d1 hok1 hok2 hnew
      have q := fun W (hW : At w.heap.size [] w W G 0 [] (cutsS ((cs.take k).map q4))) => at_cut hW (x % 4) (y % 4) hok1 hok2
      rw [hnew] at q
      clear hnew
      have e3x := i64_and3 x
      have e3y := i64_and3 y
      have d0' : wr.drew.cell? ⟨blk, o + k * 2, none⟩ = some (.int .i64 x) := d0
      have d1' : wr.drew.cell? ⟨blk, o + k * 2 + 1, none⟩ = some (.int .i64 y) := d1
      go_upto_region 8 with (fail)
      go_region_with (go_at_call 10; (refine (q _ h.drew).mono ?_); rintro e w4 ⟨rfl, h4, _⟩)
      all_goals
        go_wp2
        go_roundw
        case rel => exact ⟨k + 1, by omega, by omega, by go_num, h4⟩
        case measure => simp [intOf]; omega
    · have htk : cs.take k = cs.take 10 := by
        rcases Nat.lt_or_ge k cs.length with h1 | h1
        · rw [show k = 10 by omega]
        · rw [List.take_of_length_le h1, List.take_of_length_le (by omega)]
      have hki : ¬ ((k : Int) < cs.length ∧ (k : Int) < 10) := by omega
      rw [htk] at h
      clear htk
      obtain ⟨E, hE⟩ : ∃ E, Hid (E = (cs.take 10).map q4) := ⟨_, rfl⟩
      rw [← hE.out] at h
      rcases (show ((k : Int) < cs.length ∧ ¬ (k : Int) < 10) ∨ ¬ (k : Int) < cs.length by omega) with ⟨hl1, hl2⟩ | hl1
      all_goals
        obtain ⟨w5, rfl⟩ : ∃ w5, w5 = wr := ⟨wr, rfl⟩
        go_wp2
        go_loopw [8, 9, 10] (fun a m i wr => ∃ j : Nat, j ≤ ps.length ∧ j ≤ 40 ∧ a = .int .i64 (j : Int) ∧ i = .int .i64 (j : Int) ∧ m = .int .i64 (((apMs ps j).filter (wantB (cutsS E) [])).length : Int) ∧ At w.heap.size [] w wr G (j : Int) (apMs ps j) (cutsS E)) (fun _ _ i _ => 40 - (intOf i).toNat)
        case atStart => exact ⟨0, by omega, by omega, rfl, rfl, rfl, h⟩
        case round =>
          obtain ⟨j, hj, hj40, rfl, rfl, rfl, h⟩ := hrel
          by_cases hlt : j < ps.length ∧ j < 40
          · obtain ⟨hm1, hm2⟩ := hlt
            have hji : (j : Int) < ps.length := by omega
            have hjj : (j : Int) < 40 := by omega
            obtain ⟨blk, o, rfl, hbk, d0, d1⟩ := pair_cells (hA1.fr h.frame (Nat.le_refl _) (by simp)) j hm1
            have hgd : ps[j] = ps.getD j (0, 0) := by rw [List.getD_eq_getElem?_getD, List.getElem?_eq_getElem hm1]; rfl
            rw [hgd] at d0 d1
            have hS := apMs_send ps j hm2
            have hM := apMs_may ps j E
            obtain ⟨hok1, hok2⟩ := q4_ok (ps.getD j (0, 0))
            obtain ⟨p, hp⟩ : ∃ p, ps.getD j (0, 0) = p := ⟨_, rfl⟩
            rw [hp] at d0 d1 hS hM hok1 hok2
            clear hgd hp
            obtain ⟨x, y⟩ := p
            simp only [q4] at d0 d1 hS hM hok1 hok2
            have e3x := i64_and3 x
            have e3y := i64_and3 y
            have q := at_send1 h (by omega) (by omega) (x % 4) (y % 4) hok1 hok2 ⟨#[120]⟩ _ _ _ hS
            have HM := Lib.hid hM
            clear hS hM
            generalize hma : ((apMs ps j).filter (wantB (cutsS E) [])).length = may at HM ⊢
            have hmay : may ≤ 40 := by rw [← hma]; exact Nat.le_trans (List.length_filter_le _ _) (by rw [apMs_len]; exact hj40)
            clear hma
            go_wp2_with (go_at_call 9; (refine q.mono ?_); rintro e w6 ⟨rfl, h6, _⟩)
            go_loop [13, 14] (fun cut i => ∃ t : Nat, t ≤ cs.length ∧ t ≤ 10 ∧ i = .int .i64 (t : Int) ∧ cut = .bool (cutB (x % 4) (y % 4) ((cs.take t).map q4))) (fun _ i => 10 - (intOf i).toNat)
            case atStart => exact ⟨0, by omega, by omega, rfl, rfl⟩
            case round =>
              obtain ⟨t, ht, ht10, rfl, rfl⟩ := hrel
              by_cases hlt : t < cs.length ∧ t < 10
              · obtain ⟨hn1, hn2⟩ := hlt
                have hti : (t : Int) < cs.length := by omega
                have htj : (t : Int) < 10 := by omega
                obtain ⟨blk, o, rfl, hbk, d0, d1⟩ := pair_cells (hA2.fr h6.frame (Nat.le_refl _) (by simp)) t hn1
                obtain ⟨p, hp⟩ : ∃ p, p = cs[t]'hn1 := ⟨_, rfl⟩
                rw [← hp] at d0 d1
                have hnew : cutB (x % 4) (y % 4) ((cs.take (t + 1)).map q4) = (cutB (x % 4) (y % 4) ((cs.take t).map q4) || (((q4 p).1 != (q4 p).2) && ((x % 4 == (q4 p).1) && (y % 4 == (q4 p).2) || (x % 4 == (q4 p).2) && (y % 4 == (q4 p).1)))) := by
                  rw [List.take_succ_eq_append_getElem hn1, List.map_append, ← hp, List.map_cons, List.map_nil, cutB_snoc, beq_dec, beq_dec, beq_dec, beq_dec, bne_dec]
                clear hp
                obtain ⟨u, v⟩ := p
                simp only [q4] at d0 d1 hnew
                have e3u := i64_and3 u
                have e3v := i64_and3 v
                have HN := Lib.hid hnew
                clear hnew
                obtain ⟨cb, hcb⟩ : ∃ cb, cutB (x % 4) (y % 4) ((cs.take t).map q4) = cb := ⟨_, rfl⟩
                rw [hcb] at HN ⊢
                clear hcb
                obtain ⟨cn, hcn⟩ : ∃ cn, cutB (x % 4) (y % 4) ((cs.take (t + 1)).map q4) = cn := ⟨_, rfl⟩
                have hcn' := Lib.hid hcn
                have hn := HN.out
                rw [hcn] at hn
                clear HN hcn
                rcases (show cb = true ∧ cn = true ∨ cb = false ∧ (u % 4 != v % 4) = false ∧ cn = false ∨ cb = false ∧ (u % 4 != v % 4) = true ∧ (x % 4 == u % 4) = true ∧ (y % 4 == v % 4) = true ∧ cn = true ∨
                    cb = false ∧ (u % 4 != v % 4) = true ∧ (x % 4 == u % 4) = true ∧ (y % 4 == v % 4) = false ∧ (x % 4 == v % 4) = false ∧ cn = false ∨
                    cb = false ∧ (u % 4 != v % 4) = true ∧ (x % 4 == u % 4) = false ∧ (x % 4 == v % 4) = false ∧ cn = false ∨
                    cb = false ∧ (u % 4 != v % 4) = true ∧ (x % 4 == u % 4) = false ∧ (x % 4 == v % 4) = true ∧ cn = (y % 4 == u % 4) by
                  have hx : (u % 4 != v % 4) = true → (x % 4 == u % 4) = true → (x % 4 == v % 4) = false := by simp; omega
                  revert hn hx
                  cases cb <;> cases (u % 4 != v % 4) <;> cases (x % 4 == u % 4) <;> cases (y % 4 == v % 4) <;> cases (x % 4 == v % 4) <;> simp) with ⟨rfl, rfl⟩ | ⟨rfl, b1, rfl⟩ | ⟨rfl, b1, b2, b3, rfl⟩ | ⟨rfl, b1, b2, b3, b4, rfl⟩ | ⟨rfl, b1, b2, b4, rfl⟩ | ⟨rfl, b1, b2, b4, rfl⟩
                all_goals
                  clear hn
                  go_wp2
                  refine ⟨⟨t + 1, by omega, by omega, by go_num, by rw [hcn'.out]⟩, by simp [intOf]; omega⟩
              · have htk : (cs.take t).map q4 = E := by
                  rw [hE.out]
                  congr 1
                  rcases Nat.lt_or_ge t cs.length with h1 | h1
                  · rw [show t = 10 by omega]
                  · rw [List.take_of_length_le h1, List.take_of_length_le (by omega)]
                rw [htk]
                clear htk
                have hM := HM.out
                clear HM
                obtain ⟨cb, hcb⟩ : ∃ cb, cutB (x % 4) (y % 4) E = cb := ⟨_, rfl⟩
                rw [hcb] at hM ⊢
                clear hcb
                rcases (show ((t : Int) < cs.length ∧ ¬ (t : Int) < 10) ∨ ¬ (t : Int) < cs.length by omega) with ⟨hn1, hn2⟩ | hn1
                all_goals
                  cases cb
                  all_goals
                    simp only [Bool.not_true, Bool.not_false, Bool.toNat_true, Bool.toNat_false] at hM
                    have HM := Lib.hid hM
                    clear hM
                    go_wp2
                    go_roundw
                    case rel => exact ⟨j + 1, by omega, by omega, by go_num, by go_num, by rw [HM.out]; go_num, h6⟩
                    case measure => simp [intOf]; omega
          · obtain ⟨J, hJ⟩ : ∃ J, Hid (J = apMs ps j) := ⟨_, rfl⟩
            have hJo : Once J := by rw [hJ.out]; exact apMs_once ps j
            have hJl : J.length = j := by rw [hJ.out]; exact apMs_len ps j
            rw [← hJ.out] at h ⊢
            obtain ⟨may, hmay⟩ : ∃ may, may = (J.filter (wantB (cutsS E) [])).length := ⟨_, rfl⟩
            have hmj : may ≤ j := by rw [hmay, ← hJl]; exact List.length_filter_le _ _
            rw [← hmay]
            have hmay' := Lib.hid hmay
            clear hmay
            obtain ⟨D, hD⟩ : ∃ D, Hid (D = cutsS E) := ⟨_, rfl⟩
            have hDl : D.length ≤ 1000000 := by
              rw [hD.out, hE.out]
              refine Nat.le_trans (cutsS_len _) ?_
              simp
              omega
            rw [← hD.out] at h hmay'
            rcases (show ((j : Int) < ps.length ∧ ¬ (j : Int) < 40) ∨ ¬ (j : Int) < ps.length by omega) with ⟨hn1, hn2⟩ | hn1
            all_goals
              go_wp2
              go_loopw [17, 18] (fun gt i wr => ∃ (t u : Nat) (mr : List Msg), t ≤ j + 1 ∧ i = .int .i64 (t : Int) ∧ gt = .int .i64 (u : Int) ∧ At w.heap.size [] w wr G (j : Int) mr D ∧ Once mr ∧ u + (mr.filter (wantB D [])).length = may ∧ (u = t ∨ (mr.filter (wantB D [])).length = 0) ∧ mr.length + u = j) (fun _ i _ => j + 1 - (intOf i).toNat)
              case atStart => exact ⟨0, 0, J, by omega, rfl, rfl, h, hJo, by rw [Nat.zero_add]; exact hmay'.out.symm, .inl rfl, by omega⟩
              case round =>
                obtain ⟨t, u, mr, ht, rfl, rfl, h, hone, hu1, hu2, hu3⟩ := hrel
                have hmrl : mr.length ≤ 1000000 := by omega
                have huj : u ≤ 1000000 := by omega
                by_cases hlt : t ≤ j
                · have hti : (t : Int) ≤ j := by omega
                  have hto : okI (t : Int) := by unfold okI; omega
                  by_cases hz : mr.filter (wantB D []) = []
                  · obtain ⟨hq1, hq2⟩ := taken_none (t : Int) hz
                    have q := at_take' h hmrl (t : Int) hto _ _ hq1 hq2 _ rfl false rfl
                    simp only [Option.getD_none] at q
                    generalize zeroMsg = z at q
                    go_wp2_with (go_at_call 11; (refine q.mono ?_); rintro e w6 ⟨rfl, h6, _⟩)
                    go_roundw
                    case rel => exact ⟨t + 1, u, mr, by omega, by go_num, by go_num, h6.alloc _, hone, hu1, .inr (by rw [hz]; rfl), hu3⟩
                    case measure => simp [intOf]; omega
                  · obtain ⟨hs1, hs2, hs3, hs4⟩ := take_step hone (t : Int) hz
                    have q := at_take' h hmrl (t : Int) hto _ _ rfl rfl _ rfl true hs1
                    obtain ⟨mn, hmn⟩ : ∃ mn, takeS mr D (t : Int) = mn := ⟨_, rfl⟩
                    rw [hmn] at q hs2 hs3 hs4
                    generalize (takenS mr D (t : Int)).getD zeroMsg = z at q
                    have hpos : 0 < (mr.filter (wantB D [])).length := List.length_pos_iff.2 hz
                    go_wp2_with (go_at_call 11; (refine q.mono ?_); rintro e w6 ⟨rfl, h6, _⟩)
                    go_roundw
                    case rel => exact ⟨t + 1, u + 1, mn, by omega, by go_num, by go_num, h6.alloc _, hs2, by omega, by omega, by omega⟩
                    case measure => simp [intOf]; omega
                · have hti : ¬ (t : Int) ≤ j := by omega
                  have hz : (mr.filter (wantB D [])).length = 0 := by omega
                  have hum : u = may := by omega
                  subst hum
                  have q1 := at_heal0 h hDl 0
                  rw [heal_all] at q1
                  have q2 := fun W (hW : At w.heap.size [] w W G (j : Int) mr []) => at_waits0 hW hmrl 0
                  rw [want_all] at q2
                  have hml2 : ((mr.length : Int) == (j : Int) - (u : Int)) = true := by rw [beq_iff_eq]; omega
                  go_wp2_with (first
                    | (go_at_call 14; (refine (q2 _ h7).mono ?_); rintro e w8 ⟨A8, cp8, rfl, _, h8, _⟩)
                    | (go_at_call 13; (refine q1.mono ?_); rintro e w7 ⟨rfl, h7, _⟩))
                  go_ret
                  exact ⟨rfl, h8.frame⟩
end Go.Proofs.Ytjlpbhmhnniodaa
