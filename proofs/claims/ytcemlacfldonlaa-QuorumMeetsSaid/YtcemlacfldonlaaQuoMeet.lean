/- QuorumMeets: the walk. -/
import Derived.Test.YtcemlacfldonlaaQuoMeetP
import Derived.Test.YtcemlacfldonlaaQuoOpens
namespace Go.Proofs.Ytcemlacfldonlaa
open Go.RowKit
open Ck
set_option linter.unusedSimpArgs false
theorem infoTg : (Try.prog.info? 45).map (fun i => (i.zero, i.size, i.bytes)) = some (some (.agg #[.int .i64 0, .int .i64 0]), 2, 16) := by kernel_rfl
theorem bool_at {w : World} {N : Nat} {A : Option Addr} {rs : List Bool} (h : ARow w N A (rs.map Value.bool)) {q : Nat} (hq : q < rs.length) : ∃ blk o, A = some ⟨blk, o, none⟩ ∧ blk < N ∧ w.cell? ⟨blk, o + q, none⟩ = some (.bool (rs.getD q false)) := by
  rcases h with h | ⟨blk, o, hA, hb, hr⟩
  · have := congrArg List.length h
    simp at this
    rw [this] at hq
    simp at hq
  · exact ⟨blk, o, hA, hb, hr q _ (by rw [List.getElem?_map, List.getElem?_eq_getElem hq, List.getD_eq_getElem?_getD, List.getElem?_eq_getElem hq]; rfl)⟩
set_option maxHeartbeats 20000000 in
set_option maxRecDepth 100000 in
theorem meets_law (w : World) (n0 n1 : Int) (A B : Option Addr) (ca cb : Nat) (rs ws : List Bool) (hA : ARow w w.heap.size A (rs.map Value.bool)) (hB : ARow w w.heap.size B (ws.map Value.bool)) :
    Calls Try.prog 4 #[.agg #[.int .i64 n0, .int .i64 n1], .slice A rs.length ca, .slice B ws.length cb] w fun e w' => e = .returned (.bool true) ∧ Fr w.heap.size [] w w' := by
  obtain ⟨i0, hi, hz0, hz1, hz2⟩ : ∃ i, Try.prog.info? 45 = some i ∧ i.zero = some (.agg #[.int .i64 0, .int .i64 0]) ∧ i.size = 2 ∧ i.bytes = 16 := by
    have h := infoTg
    cases hi : Try.prog.info? 45 with
    | none => rw [hi] at h; cases h
    | some i0 =>
      rw [hi] at h
      simp only [Option.map_some, Option.some.injEq, Prod.mk.injEq] at h
      exact ⟨i0, rfl, h.1, h.2.1, h.2.2⟩
  have V0 := Has.new w 42 [.int .i64 n0, .int .i64 n1]
  have f0 := (Fr.refl w.heap.size [] w).alloc (Nat.le_refl _) (.cells #[.int .i64 n0, .int .i64 n1] 42)
  go_enter Try.func4, Try.ntmps4
  go_upto_region 2 with (go_at_call 5; (with_reducible refine (awake_any _).mono ?_); rintro e w1 ⟨rfl, f1⟩)
  have V1 := V0.fr f1 V0.lt (by simp)
  have E1 := f0.into f0.size f1 (by simp)
  clear V0 f0 f1
  go_upto_if 21 with fail
  go_cut [8] from 21 to 23 (fun s wc => (∃ M : Nat, s = .int .i64 (M : Int) ∧ M ≤ rs.length ∧ M ≤ ws.length) ∧ wc = w1)
  case first =>
    by_cases h1 : ws.length < rs.length
    · have h1i : (ws.length : Int) < rs.length := by omega
      go_wp2
      go_meet
      exact ⟨⟨ws.length, rfl, by omega, by omega⟩, rfl⟩
    · have h1i : ¬ ((ws.length : Int) < rs.length) := by omega
      go_wp2
      go_meet
      exact ⟨⟨rs.length, rfl, by omega, by omega⟩, rfl⟩
  case rest =>
  obtain ⟨⟨M, rfl, hM1, hM2⟩, hw1⟩ := hcut
  subst wc
  go_upto_if 25 with fail
  go_cut [8] from 25 to 25 (fun s wc => (∃ N : Nat, s = .int .i64 (N : Int) ∧ N ≤ M ∧ N ≤ 12) ∧ wc = w1)
  case first =>
    by_cases h2 : 12 < M
    · have h2i : (12 : Int) < M := by omega
      go_wp2
      go_meet
      exact ⟨⟨12, rfl, by omega, by omega⟩, rfl⟩
    · have h2i : ¬ ((12 : Int) < M) := by omega
      go_wp2
      go_meet
      exact ⟨⟨M, rfl, by omega, by omega⟩, rfl⟩
  case rest =>
    obtain ⟨⟨N, rfl, hN, hN3⟩, hw1⟩ := hcut
    subst wc
    have hN1 : N ≤ rs.length := by omega
    have hN2 : N ≤ ws.length := by omega
    go_wp2
    go_loopw [9, 10] (fun s i wr => ∃ (q : Nat) (A2 : Option Addr) (c2 : Nat), q ≤ N ∧ i = .int .i64 (q : Int) ∧ s = .slice A2 q c2 ∧ wr.ownsRow w.heap.size 45 2 (.slice A2 q c2) q ((tsQ q).flatMap PT) ∧ Fr w.heap.size [] w wr ∧ Has wr w.heap.size 42 [.int .i64 n0, .int .i64 n1]) (fun _ i _ => N - (intOf i).toNat)
    case atStart => exact ⟨0, none, 0, by omega, rfl, rfl, World.ownsRow_nil _ _ _ _, E1, V1⟩
    case round =>
      obtain ⟨q, A2, c2, hq, rfl, rfl, hown, hF, V⟩ := hrel
      by_cases hlt : q < N
      · have hki : (q : Int) < N := by omega
        have hones : ∀ u ∈ [Value.int .i64 ((q : Int) + 1), .int .i64 ((q : Int) + 1)], u.oneCell' = true := by
          intro u hu
          simp only [List.mem_cons, List.not_mem_nil, or_false] at hu
          rcases hu with rfl | rfl <;> rfl
        have hs5 := hF.size
        have fr0 : Fr wr.heap.size (Value.slice A2 q c2).ownBlock.toList wr (wr.alloc (.cells #[.int .i64 ((q : Int) + 1), .int .i64 ((q : Int) + 1)] 45)) := (Fr.refl _ _ _).alloc (Nat.le_refl _) _
        go_wp2_with (at_builtin; refine wpList_append_has (by rfl) (.tmp 31) (.tmp 37) 22 (by rfl) w.heap.size 45 i0 (.agg #[.int .i64 0, .int .i64 0]) 2 16 Try.underlying22 hi hz0 hz1 hz2 rfl (by decide) _ q _ (by rfl) (hown.alloc _) wr.heap.size 1 [.int .i64 ((q : Int) + 1), .int .i64 ((q : Int) + 1)] (by rfl) (Has.new wr 45 _) rfl hones (by unfold maxLen; omega) (by omega) (by simp; omega) ?_; intro v' w6 hB6 hg6 hv6; obtain ⟨A3, c3, rfl⟩ := own_len hB6)
        have fr2 := fr0.grown hg6 (by simp) (fun q hq => .inl (by simp [hq]))
        have hb4 : w.heap.size ∉ (Value.slice A2 q c2).ownBlock.toList := fun hm => by
          have h1 := own_mem hown (Option.mem_toList.1 hm)
          obtain ⟨_, cur, hg⟩ := h1
          unfold Has at V
          rw [V] at hg
          injection hg with hg
          injection hg with _ hg
          exact absurd hg (by decide)
        have V6 := V.fr fr2 V.lt hb4
        have hF6 := hF.trans (fr2.mono hs5 fun q hq hl => by
          have := (hown.lt q (Option.mem_toList.1 hq)).1
          omega)
        refine ⟨⟨q + 1, A3, c3, by omega, by go_num, rfl, ?_, hF6, V6⟩, by simp [intOf]; omega⟩
        rw [tsq_succ, List.flatMap_append]
        simpa [PT] using hB6
      · obtain rfl : q = N := by omega
        have hki : ¬ ((q : Int) < q) := by omega
        obtain ⟨A4, c4, e4, hT⟩ := own_arow hown
        injection e4 with e5 e6 e7
        subst e5 e7
        have x0 := V.cell 0
        have x1 := V.cell 1
        have hl := tsq_len q
        have hn1 := new_any wr A2 c2 (tsQ q) n0 0 hT (by omega)
        rw [newl_q, hl] at hn1
        go_upto_region 13 with (go_at_call 6; (with_reducible refine hn1.mono ?_); rintro e w4 ⟨rfl, F1, T1, f4, hG1⟩)
        have hn2 := new_any w4 A2 c2 (tsQ q) n1 0 ((hT.fr f4 (Nat.le_refl _) (by simp)).mono f4.size) (by omega)
        rw [newl_q, hl] at hn2
        have V4 := V.fr f4 V.lt (by simp)
        have x2 := V4.cell 1
        have E4 := hF.into hF.size f4 (by simp)
        have hk1 : ∀ k ∈ F1, w.heap.size < k := fun k hk => Nat.lt_of_lt_of_le V.lt (hG1 k hk)
        obtain ⟨g1, hg1⟩ : ∃ g1, g1 = wr.heap.size := ⟨_, rfl⟩
        rw [← hg1] at T1 ⊢
        clear hg1 hn1 hG1 f4
        go_upto_region 14 with (go_at_call 6; (with_reducible refine hn2.mono ?_); rintro e w5 ⟨rfl, F2, U1, f5, hG2⟩)
        have E5 := E4.into E4.size f5 (by simp)
        have T2 := T1.fr0 f5
        have V5 := V4.fr f5 V4.lt (by simp)
        have hk2 : ∀ k ∈ F2, w.heap.size < k := fun k hk => Nat.lt_of_lt_of_le V4.lt (hG2 k hk)
        have hd : ∀ k ∈ F1, k ∉ F2 := fun k hk hm => by have := T1.lt k hk; have := hG2 k hm; omega
        obtain ⟨g2, hg2⟩ : ∃ g2, g2 = w4.heap.size := ⟨_, rfl⟩
        rw [← hg2] at U1 ⊢
        clear hg2 hn2 hG2 f5 V4 E4 T1 hT hown V hF
        go_wp2
        go_loopw [13, 14] (fun s i wr => ∃ (k : Nat) (b : Bool), k ≤ q ∧ i = .int .i64 (k : Int) ∧ s = .bool b ∧ Hid (b = bothQ rs ws k) ∧ TyIs wr g1 57 F1 n0 0 (LQ q (upQ rs k)) ∧ TyIs wr g2 57 F2 n1 0 (LQ q (upQ ws k)) ∧ Fr w.heap.size [] w wr ∧ Has wr w.heap.size 42 [.int .i64 n0, .int .i64 n1]) (fun _ i _ => q - (intOf i).toNat)
        case atStart => exact ⟨0, false, by omega, rfl, rfl, Lib.hid rfl, by rw [upq_zero]; exact T2, by rw [upq_zero]; exact U1, E5, V5⟩
        case round =>
          clear T2 U1 E5 V5
          obtain ⟨k, b, hk, rfl, rfl, hb, T1, U1, hF, V⟩ := hrel
          by_cases hlt : k < q
          · have hki : (k : Int) < q := by omega
            have hkr : (k : Int) < rs.length := by omega
            have hkw : (k : Int) < ws.length := by omega
            obtain ⟨x, hx⟩ : ∃ x, Hid (rs.getD k false = x) := ⟨_, rfl⟩
            obtain ⟨y, hy⟩ : ∃ y, Hid (ws.getD k false = y) := ⟨_, rfl⟩
            obtain ⟨blk, o, rfl, hbl, cx⟩ := bool_at hA (q := k) (by omega)
            obtain ⟨blk2, o2, rfl, hbl2, cy⟩ := bool_at hB (q := k) (by omega)
            rw [hx.out] at cx
            rw [hy.out] at cy
            have hst : Hid (bothQ rs ws (k + 1) = (b || (x && y))) := by refine Lib.hid ?_; rw [both_step, hb.out, hx.out, hy.out]
            have cx1 := (hF.cell (p := ⟨blk, o + k, none⟩) hbl (by simp)).trans cx
            have cy1 := (hF.cell (p := ⟨blk2, o2 + k, none⟩) hbl2 (by simp)).trans cy
            have lq1 := lq_len q (upQ rs k)
            have lq2 := lq_len q (upQ ws k)
            have sx : x = true → sayL 1 ((k : Int) + 1) (LQ q (upQ rs k)) = LQ q (upQ rs (k + 1)) := fun e => (say_q q k _ (upq_self rs k)).trans (congrArg (LQ q) (upq_true (hx.out.trans e)))
            have sy : y = true → sayL 1 ((k : Int) + 1) (LQ q (upQ ws k)) = LQ q (upQ ws (k + 1)) := fun e => (say_q q k _ (upq_self ws k)).trans (congrArg (LQ q) (upq_true (hy.out.trans e)))
            have nx : x = false → upQ rs k = upQ rs (k + 1) := fun e => upq_false (hx.out.trans e)
            have ny : y = false → upQ ws k = upQ ws (k + 1) := fun e => upq_false (hy.out.trans e)
            replace sx : Hid (x = true → sayL 1 ((k : Int) + 1) (LQ q (upQ rs k)) = LQ q (upQ rs (k + 1))) := Lib.hid sx
            replace sy : Hid (y = true → sayL 1 ((k : Int) + 1) (LQ q (upQ ws k)) = LQ q (upQ ws (k + 1))) := Lib.hid sy
            replace nx : Hid (x = false → upQ rs k = upQ rs (k + 1)) := Lib.hid nx
            replace ny : Hid (y = false → upQ ws k = upQ ws (k + 1)) := Lib.hid ny
            clear hx hy hb
            cases x
            · cases y
              · cases b
                · rw [nx.out rfl] at T1
                  rw [ny.out rfl] at U1
                  go_wp2
                  exact ⟨⟨k + 1, false, by omega, by go_num, rfl, Lib.hid hst.out.symm, T1, U1, hF, V⟩, by simp [intOf]; omega⟩
                · rw [nx.out rfl] at T1
                  rw [ny.out rfl] at U1
                  go_wp2
                  exact ⟨⟨k + 1, true, by omega, by go_num, rfl, Lib.hid hst.out.symm, T1, U1, hF, V⟩, by simp [intOf]; omega⟩
              · have sy1 := Lib.hid (sy.out rfl)
                cases b
                · rw [nx.out rfl] at T1
                  go_wp2_with (first
                    | (go_at_call 8; (with_reducible refine (yesC U1 (by omega) (lq_nod _ _) ((k : Int) + 1) rfl sy1.out).mono ?_); rintro e w7 ⟨rfl, U4, f7⟩; have T4 := T1.fr f7 (fun j hj => ⟨T1.lt j hj, hd j hj⟩); have E7 := hF.into hF.size f7 (fun j hj => Nat.le_of_lt (hk2 j hj)); have V7 := V.fr f7 V.lt (fun hm => Nat.lt_irrefl _ (hk2 _ hm)); have cx3 := (E7.cell (p := ⟨blk, o + k, none⟩) hbl List.not_mem_nil).trans cx; have cy3 := (E7.cell (p := ⟨blk2, o2 + k, none⟩) hbl2 List.not_mem_nil).trans cy))
                  exact ⟨⟨k + 1, false, by omega, by go_num, rfl, Lib.hid hst.out.symm, T4, U4, E7, V7⟩, by simp [intOf]; omega⟩
                · rw [nx.out rfl] at T1
                  go_wp2_with (first
                    | (go_at_call 8; (with_reducible refine (yesC U1 (by omega) (lq_nod _ _) ((k : Int) + 1) rfl sy1.out).mono ?_); rintro e w7 ⟨rfl, U4, f7⟩; have T4 := T1.fr f7 (fun j hj => ⟨T1.lt j hj, hd j hj⟩); have E7 := hF.into hF.size f7 (fun j hj => Nat.le_of_lt (hk2 j hj)); have V7 := V.fr f7 V.lt (fun hm => Nat.lt_irrefl _ (hk2 _ hm)); have cx3 := (E7.cell (p := ⟨blk, o + k, none⟩) hbl List.not_mem_nil).trans cx; have cy3 := (E7.cell (p := ⟨blk2, o2 + k, none⟩) hbl2 List.not_mem_nil).trans cy))
                  exact ⟨⟨k + 1, true, by omega, by go_num, rfl, Lib.hid hst.out.symm, T4, U4, E7, V7⟩, by simp [intOf]; omega⟩
            · have sx1 := Lib.hid (sx.out rfl)
              cases y
              · cases b
                · rw [ny.out rfl] at U1
                  go_wp2_with (first
                    | (go_at_call 8; (with_reducible refine (yesC T1 (by omega) (lq_nod _ _) ((k : Int) + 1) rfl sx1.out).mono ?_); rintro e w6 ⟨rfl, T3, f6⟩; have U3 := U1.fr f6 (fun j hj => ⟨U1.lt j hj, fun hm => hd j hm hj⟩); have E6 := hF.into hF.size f6 (fun j hj => Nat.le_of_lt (hk1 j hj)); have V6 := V.fr f6 V.lt (fun hm => Nat.lt_irrefl _ (hk1 _ hm)); have cx2 := (E6.cell (p := ⟨blk, o + k, none⟩) hbl List.not_mem_nil).trans cx; have cy2 := (E6.cell (p := ⟨blk2, o2 + k, none⟩) hbl2 List.not_mem_nil).trans cy))
                  exact ⟨⟨k + 1, false, by omega, by go_num, rfl, Lib.hid hst.out.symm, T3, U3, E6, V6⟩, by simp [intOf]; omega⟩
                · rw [ny.out rfl] at U1
                  go_wp2_with (first
                    | (go_at_call 8; (with_reducible refine (yesC T1 (by omega) (lq_nod _ _) ((k : Int) + 1) rfl sx1.out).mono ?_); rintro e w6 ⟨rfl, T3, f6⟩; have U3 := U1.fr f6 (fun j hj => ⟨U1.lt j hj, fun hm => hd j hm hj⟩); have E6 := hF.into hF.size f6 (fun j hj => Nat.le_of_lt (hk1 j hj)); have V6 := V.fr f6 V.lt (fun hm => Nat.lt_irrefl _ (hk1 _ hm)); have cx2 := (E6.cell (p := ⟨blk, o + k, none⟩) hbl List.not_mem_nil).trans cx; have cy2 := (E6.cell (p := ⟨blk2, o2 + k, none⟩) hbl2 List.not_mem_nil).trans cy))
                  exact ⟨⟨k + 1, true, by omega, by go_num, rfl, Lib.hid hst.out.symm, T3, U3, E6, V6⟩, by simp [intOf]; omega⟩
              · have sy1 := Lib.hid (sy.out rfl)
                cases b
                · go_wp2_with (first
                    | (go_at_call 8; (with_reducible refine (yesC U3 (by omega) (lq_nod _ _) ((k : Int) + 1) rfl sy1.out).mono ?_); rintro e w7 ⟨rfl, U4, f7⟩; have T4 := T3.fr f7 (fun j hj => ⟨T3.lt j hj, hd j hj⟩); have E7 := E6.into E6.size f7 (fun j hj => Nat.le_of_lt (hk2 j hj)); have V7 := V6.fr f7 V6.lt (fun hm => Nat.lt_irrefl _ (hk2 _ hm)); have cx3 := (E7.cell (p := ⟨blk, o + k, none⟩) hbl List.not_mem_nil).trans cx; have cy3 := (E7.cell (p := ⟨blk2, o2 + k, none⟩) hbl2 List.not_mem_nil).trans cy)
                    | (go_at_call 8; (with_reducible refine (yesC T1 (by omega) (lq_nod _ _) ((k : Int) + 1) rfl sx1.out).mono ?_); rintro e w6 ⟨rfl, T3, f6⟩; have U3 := U1.fr f6 (fun j hj => ⟨U1.lt j hj, fun hm => hd j hm hj⟩); have E6 := hF.into hF.size f6 (fun j hj => Nat.le_of_lt (hk1 j hj)); have V6 := V.fr f6 V.lt (fun hm => Nat.lt_irrefl _ (hk1 _ hm)); have cx2 := (E6.cell (p := ⟨blk, o + k, none⟩) hbl List.not_mem_nil).trans cx; have cy2 := (E6.cell (p := ⟨blk2, o2 + k, none⟩) hbl2 List.not_mem_nil).trans cy))
                  exact ⟨⟨k + 1, true, by omega, by go_num, rfl, Lib.hid hst.out.symm, T4, U4, E7, V7⟩, by simp [intOf]; omega⟩
                · go_wp2_with (first
                    | (go_at_call 8; (with_reducible refine (yesC U3 (by omega) (lq_nod _ _) ((k : Int) + 1) rfl sy1.out).mono ?_); rintro e w7 ⟨rfl, U4, f7⟩; have T4 := T3.fr f7 (fun j hj => ⟨T3.lt j hj, hd j hj⟩); have E7 := E6.into E6.size f7 (fun j hj => Nat.le_of_lt (hk2 j hj)); have V7 := V6.fr f7 V6.lt (fun hm => Nat.lt_irrefl _ (hk2 _ hm)); have cx3 := (E7.cell (p := ⟨blk, o + k, none⟩) hbl List.not_mem_nil).trans cx; have cy3 := (E7.cell (p := ⟨blk2, o2 + k, none⟩) hbl2 List.not_mem_nil).trans cy)
                    | (go_at_call 8; (with_reducible refine (yesC T1 (by omega) (lq_nod _ _) ((k : Int) + 1) rfl sx1.out).mono ?_); rintro e w6 ⟨rfl, T3, f6⟩; have U3 := U1.fr f6 (fun j hj => ⟨U1.lt j hj, fun hm => hd j hm hj⟩); have E6 := hF.into hF.size f6 (fun j hj => Nat.le_of_lt (hk1 j hj)); have V6 := V.fr f6 V.lt (fun hm => Nat.lt_irrefl _ (hk1 _ hm)); have cx2 := (E6.cell (p := ⟨blk, o + k, none⟩) hbl List.not_mem_nil).trans cx; have cy2 := (E6.cell (p := ⟨blk2, o2 + k, none⟩) hbl2 List.not_mem_nil).trans cy))
                  exact ⟨⟨k + 1, true, by omega, by go_num, rfl, Lib.hid hst.out.symm, T4, U4, E7, V7⟩, by simp [intOf]; omega⟩
          · obtain rfl : k = q := by omega
            have hki : ¬ ((k : Int) < k) := by omega
            have lq1 := lq_len k (upQ rs k)
            have lq2 := lq_len k (upQ ws k)
            have x0 := V.cell 0
            have x1 := V.cell 1
            by_cases c1 : n0 < 1
            · go_wp2
              go_ret
              exact ⟨rfl, hF⟩
            by_cases c2 : n1 < 1
            · go_wp2
              go_ret
              exact ⟨rfl, hF⟩
            by_cases c3 : 12 < n0
            · go_wp2
              go_ret
              exact ⟨rfl, hF⟩
            by_cases c4 : 12 < n1
            · go_wp2
              go_ret
              exact ⟨rfl, hF⟩
            have hwr : IntKind.i64.wrap (n0 + n1) = n0 + n1 := IntWalk.i64_in _ (by omega)
            by_cases c5 : n0 + n1 ≤ k
            · go_wp2
              go_ret
              exact ⟨rfl, hF⟩
            obtain ⟨v0, hv0⟩ : ∃ v, Hid (verdN n0 0 (LQ k (upQ rs k)) = v) := ⟨_, rfl⟩
            obtain ⟨v1, hv1⟩ : ∃ v, Hid (verdN n1 0 (LQ k (upQ ws k)) = v) := ⟨_, rfl⟩
            by_cases c6 : v0 = 1
            · by_cases c7 : v1 = 1
              · subst c6 c7
                have hbb : b = true := by rw [hb.out]; exact both_end hv0.out hv1.out (by omega)
                subst hbb
                go_wp2_with (first
                  | (go_at_call 7; (with_reducible refine (verdC (U1.fr0 f6) (by omega) hv1.out).mono ?_); rintro e w7 ⟨rfl, f7⟩)
                  | (go_at_call 7; (with_reducible refine (verdC T1 (by omega) hv0.out).mono ?_); rintro e w6 ⟨rfl, f6⟩))
                go_ret
                have E6 := hF.into hF.size f6 (by simp)
                exact ⟨rfl, E6.into E6.size f7 (by simp)⟩
              · subst c6
                have hne : (v1 != 1) = true := by simpa using c7
                go_wp2_with (first
                  | (go_at_call 7; (with_reducible refine (verdC (U1.fr0 f6) (by omega) hv1.out).mono ?_); rintro e w7 ⟨rfl, f7⟩)
                  | (go_at_call 7; (with_reducible refine (verdC T1 (by omega) hv0.out).mono ?_); rintro e w6 ⟨rfl, f6⟩))
                go_ret
                have E6 := hF.into hF.size f6 (by simp)
                exact ⟨rfl, E6.into E6.size f7 (by simp)⟩
            · have hne : (v0 != 1) = true := by simpa using c6
              go_wp2_with (go_at_call 7; (with_reducible refine (verdC T1 (by omega) hv0.out).mono ?_); rintro e w6 ⟨rfl, f6⟩)
              go_ret
              exact ⟨rfl, hF.into hF.size f6 (by simp)⟩
end Go.Proofs.Ytcemlacfldonlaa
