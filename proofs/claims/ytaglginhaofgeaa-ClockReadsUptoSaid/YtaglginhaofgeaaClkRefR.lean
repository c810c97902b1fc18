/- The reference: Take, Read, digit, Parse. -/
import Derived.Test.YtaglginhaofgeaaClkPlain
import Derived.Test.YtaglginhaofgeaaRefRead
import Derived.Test.YtaglginhaofgeaaClkRefB
namespace Go.Proofs.Ytaglginhaofgeaa
open Go.RowKit Go.Shelf
open Ck Pk
theorem rrd_alloc {w : World} {b : Nat} {l : List UInt8} {e : Int} (h : RRd w b l e) (o : Obj) : RRd (w.alloc o) b l e := Has.alloc h o
theorem rrd_fr {w w' : World} {b B : Nat} {S : List Nat} {l : List UInt8} {e : Int} (h : RRd w b l e) (hf : Fr B S w w') (hb : b < B) (hs : b ∉ S) : RRd w' b l e := Has.fr h hf hb hs
theorem rrd_lt {w : World} {b : Nat} {l : List UInt8} {e : Int} (h : RRd w b l e) : b < w.heap.size := Has.lt h
def Ck.hexU (c : Int) : Int := if hexI c < 0 then 16 else hexI c
theorem digit_any (w : World) (c : Int) (h0 : 0 ≤ c) (h1 : c < 256) : Calls Try.prog 54 #[.int .u8 c] w fun e w' => e = .returned (.int .u8 (hexU c)) ∧ w' = w := by
  by_cases a1 : 48 ≤ c
  · by_cases a2 : c ≤ 57
    · have e : hexU c = c - 48 := by unfold hexU hexI; (repeat' split) <;> omega
      rw [e]
      go_enter Try.func54, Try.ntmps54
      go_wp2
      go_ret
      exact ⟨rfl, rfl⟩
    · by_cases a3 : 97 ≤ c
      · by_cases a4 : c ≤ 102
        · have e : hexU c = c - 97 + 10 := by unfold hexU hexI; (repeat' split) <;> omega
          rw [e]
          go_enter Try.func54, Try.ntmps54
          go_wp2
          go_ret
          exact ⟨rfl, rfl⟩
        · have e : hexU c = 16 := by unfold hexU hexI; (repeat' split) <;> omega
          rw [e]
          go_enter Try.func54, Try.ntmps54
          go_wp2
          go_ret
          exact ⟨rfl, rfl⟩
      · have e : hexU c = 16 := by unfold hexU hexI; (repeat' split) <;> omega
        rw [e]
        go_enter Try.func54, Try.ntmps54
        go_wp2
        go_ret
        exact ⟨rfl, rfl⟩
  · have a3 : ¬ (97 ≤ c) := by omega
    have e : hexU c = 16 := by unfold hexU hexI; (repeat' split) <;> omega
    rw [e]
    go_enter Try.func54, Try.ntmps54
    go_wp2
    go_ret
    exact ⟨rfl, rfl⟩
theorem manyE_le3 (l : List UInt8) : (manyE l 0 2).1 ≤ l.length := by
  have h := numE_len l 0
  unfold manyE
  split
  · split
    · exact Nat.zero_le _
    · rename_i h1
      exact Nat.le_trans (Nat.not_lt.1 h1) (Nat.le_trans (Nat.div_le_self _ _) h)
  · exact Nat.zero_le _
set_option maxHeartbeats 4000000 in
set_option maxRecDepth 100000 in
theorem rTake_any (w : World) (b : Nat) (l : List UInt8) (hl : l.length ≤ 1000000000) (h : RRd w b l 0) (G : List Dot × List UInt8 × Int × Bool) (hG : goR (manyE l 0 2).1 [] (manyE l 0 2).2.1 (manyE l 0 2).2.2 true = G) :
    Calls Try.prog 51 #[.pointer (some ⟨b, 0, none⟩)] w fun e w' => (∃ v, e = .returned (.tuple #[v, .bool (decide (G.2.2.1 = 0) && G.2.2.2)]) ∧ ((decide (G.2.2.1 = 0) && G.2.2.2) = true → w'.ownsRow w.heap.size 27 2 v G.1.length (G.1.flatMap Dot.cells))) ∧ RRd w' b G.2.1 G.2.2.1 ∧ Fr w.heap.size [b] w w' := by
  obtain ⟨B, hB⟩ : ∃ B, Hid ((decide (G.2.2.1 = 0) && G.2.2.2) = B) := ⟨_, Lib.hid rfl⟩
  rw [hB.out]
  obtain ⟨i0, hi, hz0, hz1, hz2⟩ := info_parts infoDot
  have hm := rrMany_any w b l 0 2 h (by omega) (by decide) (by decide)
  have hml := manyE_le3 l
  obtain ⟨m, hmm⟩ : ∃ m, manyE l 0 2 = m := ⟨_, rfl⟩
  rw [hmm] at hm hml hG
  obtain ⟨n, r0, e0⟩ := m
  simp only at hm hml hG
  have hbw := rrd_lt h
  go_enter Try.func51, Try.ntmps51
  go_wp2_with (go_at_call 68; (with_reducible refine hm.mono ?_); rintro e w2 ⟨rfl, h2, o2⟩)
  have hR2 : Fr w.heap.size [b] w w2 := (Fr.refl _ _ _).one o2 (.inl (by simp))
  go_loopw [5, 6, 7] (fun v rt i wr => ∃ (k : Nat) (acc : List Dot) (r : List UInt8) (e : Int) (ri : Bool), k ≤ n ∧ i = .int .i64 (k : Int) ∧ rt = .bool ri ∧ acc.length = k ∧ goR (n - k) acc r e ri = G ∧ RRd wr b r e ∧ wr.ownsRow w.heap.size 27 2 v k (acc.flatMap Dot.cells) ∧ Fr w.heap.size [b] w wr) (fun _ _ i _ => n - (intOf i).toNat)
  case atStart => exact ⟨0, [], r0, e0, true, by omega, rfl, rfl, rfl, hG, h2, World.ownsRow_nil _ _ _ _, hR2⟩
  case round =>
    clear h2 o2 hR2 hm h
    obtain ⟨k, acc, r, e, ri, hk, rfl, rfl, hal, hgo, hrd, hown, hF⟩ := hrel
    have hsz := hF.size
    by_cases hlt : k < n
    · have hki : (k : Int) < n := by omega
      rw [show n - k = (n - (k + 1)) + 1 by omega] at hgo
      unfold goR at hgo
      have hx := fun W (h : RRd W b r e) => rrNum_any W b r e h
      obtain ⟨q1, hq1⟩ : ∃ q1, numE r e = q1 := ⟨_, rfl⟩
      rw [hq1] at hgo
      simp only [hq1] at hx
      obtain ⟨x1, r1, e1⟩ := q1
      have hy := fun W (h : RRd W b r1 e1) => rrNum_any W b r1 e1 h
      obtain ⟨q2, hq2⟩ : ∃ q2, numE r1 e1 = q2 := ⟨_, rfl⟩
      simp only [hq2] at hgo hy hx
      obtain ⟨y1, r2, e2⟩ := q2
      simp only at hgo hy
      have hb5 : some b ≠ u5.ownBlock := fun e => by have := (hown.lt _ e.symm).1; omega
      obtain ⟨A5, c5, rfl, _⟩ := own_arow hown
      have HGO := Lib.hid hgo
      clear hgo
      go_upto_region 8 with (first
          | (go_at_call 69; (with_reducible refine (hy _ h3).mono ?_); rintro e w4 ⟨rfl, h4, o4⟩)
          | (go_at_call 69; (with_reducible refine (hx _ hrd).mono ?_); rintro e w3 ⟨rfl, h3, o3⟩))
      have oo := o3.trans o4
      have hown4 := (own_one hown oo hb5).alloc (.cells #[.int .u64 (x1 : Int), .int .u64 (y1 : Int)] 27)
      have hrd4 := rrd_alloc h4 (.cells #[.int .u64 (x1 : Int), .int .u64 (y1 : Int)] 27)
      have hF4 : Fr w.heap.size [b] w (w4.alloc (.cells #[.int .u64 (x1 : Int), .int .u64 (y1 : Int)] 27)) := (hF.one oo (.inl (by simp))).alloc (by have := oo.size; omega) _
      have HM : Has (w4.alloc (.cells #[.int .u64 (x1 : Int), .int .u64 (y1 : Int)] 27)) w4.heap.size 27 [.int .u64 (x1 : Int), .int .u64 (y1 : Int)] := Has.new _ _ _
      have hs4 : w.heap.size ≤ w4.heap.size := by have := oo.size; omega
      obtain ⟨W4, hW4⟩ : ∃ W4, w4.alloc (.cells #[.int .u64 (x1 : Int), .int .u64 (y1 : Int)] 27) = W4 := ⟨_, rfl⟩
      rw [hW4] at hown4 hrd4 hF4 HM ⊢
      clear hW4 h4 h3 o3 o4 oo hx hy hrd hown hF
      obtain ⟨_, _, he5, hr5⟩ := own_arow hown4
      obtain ⟨rfl, -, rfl⟩ : A5 = _ ∧ k = k ∧ c5 = _ := by injection he5 with q1 q2 q3; exact ⟨q1, rfl, q3⟩
      clear he5
      have t0 : W4.cell? ⟨w4.heap.size, 0, none⟩ = some (.int .u64 (x1 : Int)) := HM.cell 0
      have t1 : W4.cell? ⟨w4.heap.size, 1, none⟩ = some (.int .u64 (y1 : Int)) := HM.cell 1
      by_cases hy0 : y1 = 0
      · subst hy0
        have HG' : Hid (goR (n - (k + 1)) (acc ++ [⟨x1, 0⟩]) r2 e2 false = G) := by
          refine Lib.hid ?_
          have := HGO.out
          rw [show badD acc ⟨x1, 0⟩ = true by unfold badD; simp] at this
          simpa using this
        go_quiet (fail)
        obtain ⟨W5, hW5⟩ : ∃ W5, W4.drewN nq = W5 := ⟨_, rfl⟩
        have hF5 : Fr w.heap.size [b] w W5 := by rw [← hW5]; exact hF4.drewN nq
        have hrd5 : RRd W5 b r2 e2 := by rw [← hW5]; exact hrd4
        have hown5 : W5.ownsRow w.heap.size 27 2 (.slice A5 k c5) k (acc.flatMap Dot.cells) := by rw [← hW5]; exact hown4
        have hm0 : W5.cell? ⟨w4.heap.size, 0, none⟩ = some (.int .u64 (x1 : Int)) := by rw [← hW5]; exact HM.cell 0
        have hm1 : W5.cell? ⟨w4.heap.size, 1, none⟩ = some (.int .u64 (0 : Int)) := by rw [← hW5]; exact HM.cell 1
        have hz5 : w4.heap.size < W5.heap.size := by rw [← hW5]; exact HM.lt
        rw [hW5]
        clear hW5 hF4 hrd4 hown4 hr5 HM t1 t0
        go_wp2_with (at_builtin; refine wpList_append_has (by rfl) (.tmp 39) (.tmp 41) 23 (by rfl) w.heap.size 27 i0 (.agg #[.int .u64 0, .int .u64 0]) 2 16 Try.underlying23 hi hz0 hz1 hz2 rfl (by decide) _ k _ (by rfl) (hown5.alloc _) W5.heap.size 1 [.int .u64 (x1 : Int), .int .u64 (0 : Int)] (by rfl) (Has.new W5 27 _) rfl (ones_dot rfl rfl) (by unfold maxLen; omega) (by omega) (by simp; omega) ?_; intro v' w6 hB6 hg6 hv6)
        have hf6 : Fr w.heap.size [] W5 w6 := ((Fr.refl w.heap.size [] W5).alloc (by omega) _).grown hg6 (by simp; omega) (fun q hq => .inr (by have := (hown5.lt q hq).1; omega))
        go_roundw
        case rel => exact ⟨k + 1, acc ++ [⟨x1, 0⟩], r2, e2, false, by omega, by go_num, rfl, by rw [List.length_append, hal]; rfl, HG'.out, rrd_fr hrd5 hf6 hbw (by simp), by rw [List.flatMap_append]; exact hB6, hF5.trans (hf6.mono (Nat.le_refl _) (by simp))⟩
        case measure => simp [intOf]; omega
      · have hyp : 0 < y1 := by omega
        have hyn : ((y1 : Int) == 0) = false := by rw [beq_eq_false_iff_ne]; omega
        by_cases hk0 : k = 0
        · have hkz : decide ((0 : Int) < (k : Int)) = false := by simp; omega
          have HG' : Hid (goR (n - (k + 1)) (acc ++ [⟨x1, y1⟩]) r2 e2 ri = G) := by
            refine Lib.hid ?_
            have := HGO.out
            rw [show badD acc ⟨x1, y1⟩ = false by unfold badD; rw [List.length_eq_zero_iff.1 (hal.trans hk0)]; simp; omega] at this
            simpa using this
          go_quiet (fail)
          obtain ⟨W5, hW5⟩ : ∃ W5, W4.drewN nq = W5 := ⟨_, rfl⟩
          have hF5 : Fr w.heap.size [b] w W5 := by rw [← hW5]; exact hF4.drewN nq
          have hrd5 : RRd W5 b r2 e2 := by rw [← hW5]; exact hrd4
          have hown5 : W5.ownsRow w.heap.size 27 2 (.slice A5 k c5) k (acc.flatMap Dot.cells) := by rw [← hW5]; exact hown4
          have hm0 : W5.cell? ⟨w4.heap.size, 0, none⟩ = some (.int .u64 (x1 : Int)) := by rw [← hW5]; exact HM.cell 0
          have hm1 : W5.cell? ⟨w4.heap.size, 1, none⟩ = some (.int .u64 (y1 : Int)) := by rw [← hW5]; exact HM.cell 1
          have hz5 : w4.heap.size < W5.heap.size := by rw [← hW5]; exact HM.lt
          rw [hW5]
          clear hW5 hF4 hrd4 hown4 hr5 HM t1 t0
          go_wp2_with (at_builtin; refine wpList_append_has (by rfl) (.tmp 39) (.tmp 41) 23 (by rfl) w.heap.size 27 i0 (.agg #[.int .u64 0, .int .u64 0]) 2 16 Try.underlying23 hi hz0 hz1 hz2 rfl (by decide) _ k _ (by rfl) (hown5.alloc _) W5.heap.size 1 [.int .u64 (x1 : Int), .int .u64 (y1 : Int)] (by rfl) (Has.new W5 27 _) rfl (ones_dot rfl rfl) (by unfold maxLen; omega) (by omega) (by simp; omega) ?_; intro v' w6 hB6 hg6 hv6)
          have hf6 : Fr w.heap.size [] W5 w6 := ((Fr.refl w.heap.size [] W5).alloc (by omega) _).grown hg6 (by simp; omega) (fun q hq => .inr (by have := (hown5.lt q hq).1; omega))
          go_roundw
          case rel => exact ⟨k + 1, acc ++ [⟨x1, y1⟩], r2, e2, ri, by omega, by go_num, rfl, by rw [List.length_append, hal]; rfl, HG'.out, rrd_fr hrd5 hf6 hbw (by simp), by rw [List.flatMap_append]; exact hB6, hF5.trans (hf6.mono (Nat.le_refl _) (by simp))⟩
          case measure => simp [intOf]; omega
        · have hkp : decide (0 < k) = true := by simp; omega
          obtain ⟨blk, o, rfl, hblk, hcell⟩ := ARow.at (cells := Dot.cells) (c := 2) hr5 (fun _ => rfl) (by decide) (k - 1) (by omega)
          have tk : W4.cell? ⟨blk, o + (k - 1) * 2, none⟩ = some (.int .u64 ((acc[k - 1]'(by omega)).a : Int)) := hcell 0 _ rfl
          obtain ⟨pk, hpk⟩ : ∃ pk, acc[k - 1]'(by omega) = pk := ⟨_, rfl⟩
          rw [hpk] at tk
          have hlast : acc.getLast? = some pk := by rw [List.getLast?_eq_getElem?, hal, List.getElem?_eq_getElem (by omega), hpk]
          have HPK := Lib.hid hlast
          clear hlast hpk hcell
          have s1 : IntKind.i64.wrap ((k : Int) - 1) = (k : Int) - 1 := IntWalk.i64_in _ (by omega)
          have s2 : (0 : Int) ≤ (k : Int) - 1 := by omega
          have s3 : ((k : Int) - 1).toNat = k - 1 := by omega
          have s4 : (k : Int) - 1 < (k : Int) := by omega
          by_cases hxk : x1 ≤ pk.a
          · have hcmp : decide (x1 ≤ pk.a) = true := by simp; exact hxk
            have HG' : Hid (goR (n - (k + 1)) (acc ++ [⟨x1, y1⟩]) r2 e2 false = G) := by
              refine Lib.hid ?_
              have := HGO.out
              rw [show badD acc ⟨x1, y1⟩ = true by unfold badD; rw [HPK.out]; simp [hxk]] at this
              simpa using this
            go_quiet (fail)
            obtain ⟨W5, hW5⟩ : ∃ W5, W4.drewN nq = W5 := ⟨_, rfl⟩
            have hF5 : Fr w.heap.size [b] w W5 := by rw [← hW5]; exact hF4.drewN nq
            have hrd5 : RRd W5 b r2 e2 := by rw [← hW5]; exact hrd4
            have hown5 : W5.ownsRow w.heap.size 27 2 (.slice (some ⟨blk, o, none⟩) k c5) k (acc.flatMap Dot.cells) := by rw [← hW5]; exact hown4
            have hm0 : W5.cell? ⟨w4.heap.size, 0, none⟩ = some (.int .u64 (x1 : Int)) := by rw [← hW5]; exact HM.cell 0
            have hm1 : W5.cell? ⟨w4.heap.size, 1, none⟩ = some (.int .u64 (y1 : Int)) := by rw [← hW5]; exact HM.cell 1
            have hz5 : w4.heap.size < W5.heap.size := by rw [← hW5]; exact HM.lt
            rw [hW5]
            clear hW5 hF4 hrd4 hown4 hr5 HM t1 t0
            go_wp2_with (at_builtin; refine wpList_append_has (by rfl) (.tmp 39) (.tmp 41) 23 (by rfl) w.heap.size 27 i0 (.agg #[.int .u64 0, .int .u64 0]) 2 16 Try.underlying23 hi hz0 hz1 hz2 rfl (by decide) _ k _ (by rfl) (hown5.alloc _) W5.heap.size 1 [.int .u64 (x1 : Int), .int .u64 (y1 : Int)] (by rfl) (Has.new W5 27 _) rfl (ones_dot rfl rfl) (by unfold maxLen; omega) (by omega) (by simp; omega) ?_; intro v' w6 hB6 hg6 hv6)
            have hf6 : Fr w.heap.size [] W5 w6 := ((Fr.refl w.heap.size [] W5).alloc (by omega) _).grown hg6 (by simp; omega) (fun q hq => .inr (by have := (hown5.lt q hq).1; omega))
            go_roundw
            case rel => exact ⟨k + 1, acc ++ [⟨x1, y1⟩], r2, e2, false, by omega, by go_num, rfl, by rw [List.length_append, hal]; rfl, HG'.out, rrd_fr hrd5 hf6 hbw (by simp), by rw [List.flatMap_append]; exact hB6, hF5.trans (hf6.mono (Nat.le_refl _) (by simp))⟩
            case measure => simp [intOf]; omega
          · have hcmp : decide (x1 ≤ pk.a) = false := by simp; omega
            have HG' : Hid (goR (n - (k + 1)) (acc ++ [⟨x1, y1⟩]) r2 e2 ri = G) := by
              refine Lib.hid ?_
              have := HGO.out
              rw [show badD acc ⟨x1, y1⟩ = false by unfold badD; rw [HPK.out]; simp; omega] at this
              simpa using this
            go_quiet (fail)
            obtain ⟨W5, hW5⟩ : ∃ W5, W4.drewN nq = W5 := ⟨_, rfl⟩
            have hF5 : Fr w.heap.size [b] w W5 := by rw [← hW5]; exact hF4.drewN nq
            have hrd5 : RRd W5 b r2 e2 := by rw [← hW5]; exact hrd4
            have hown5 : W5.ownsRow w.heap.size 27 2 (.slice (some ⟨blk, o, none⟩) k c5) k (acc.flatMap Dot.cells) := by rw [← hW5]; exact hown4
            have hm0 : W5.cell? ⟨w4.heap.size, 0, none⟩ = some (.int .u64 (x1 : Int)) := by rw [← hW5]; exact HM.cell 0
            have hm1 : W5.cell? ⟨w4.heap.size, 1, none⟩ = some (.int .u64 (y1 : Int)) := by rw [← hW5]; exact HM.cell 1
            have hz5 : w4.heap.size < W5.heap.size := by rw [← hW5]; exact HM.lt
            rw [hW5]
            clear hW5 hF4 hrd4 hown4 hr5 HM t1 t0
            go_wp2_with (at_builtin; refine wpList_append_has (by rfl) (.tmp 39) (.tmp 41) 23 (by rfl) w.heap.size 27 i0 (.agg #[.int .u64 0, .int .u64 0]) 2 16 Try.underlying23 hi hz0 hz1 hz2 rfl (by decide) _ k _ (by rfl) (hown5.alloc _) W5.heap.size 1 [.int .u64 (x1 : Int), .int .u64 (y1 : Int)] (by rfl) (Has.new W5 27 _) rfl (ones_dot rfl rfl) (by unfold maxLen; omega) (by omega) (by simp; omega) ?_; intro v' w6 hB6 hg6 hv6)
            have hf6 : Fr w.heap.size [] W5 w6 := ((Fr.refl w.heap.size [] W5).alloc (by omega) _).grown hg6 (by simp; omega) (fun q hq => .inr (by have := (hown5.lt q hq).1; omega))
            go_roundw
            case rel => exact ⟨k + 1, acc ++ [⟨x1, y1⟩], r2, e2, ri, by omega, by go_num, rfl, by rw [List.length_append, hal]; rfl, HG'.out, rrd_fr hrd5 hf6 hbw (by simp), by rw [List.flatMap_append]; exact hB6, hF5.trans (hf6.mono (Nat.le_refl _) (by simp))⟩
            case measure => simp [intOf]; omega
    · obtain rfl : k = n := by omega
      rw [Nat.sub_self] at hgo
      have hgo : (acc, r, e, ri) = G := hgo
      subst hgo
      have hnk : ¬ ((k : Int) < k) := by omega
      obtain ⟨q0, q1, -, -⟩ := hrd.cells
      by_cases he : e = 0
      · subst he
        cases ri with
        | true =>
          have hBv : Hid (B = true) := Lib.hid (by rw [← hB.out]; rfl)
          go_wp2
          go_ret2
          subst hal
          exact ⟨⟨_, by rw [hBv.out]; rfl, fun _ => hown⟩, hrd, hF⟩
        | false =>
          have hBv : Hid (B = false) := Lib.hid (by rw [← hB.out]; rfl)
          go_wp2
          go_ret2
          exact ⟨⟨_, by rw [hBv.out]; rfl, fun h => by rw [hBv.out] at h; cases h⟩, hrd, hF⟩
      · have hb : (e != 0) = true := bne_iff_ne.2 he
        have hBv : Hid (B = false) := Lib.hid (by rw [← hB.out]; simp [he])
        go_wp2
        go_ret2
        exact ⟨⟨_, by rw [hBv.out]; rfl, fun h => by rw [hBv.out] at h; cases h⟩, hrd, hF⟩
theorem doneR_eq (l : List UInt8) (e : Int) : (if e = 0 then (if l = [] then (0 : Int) else 11) else e) = doneL l e := rfl
set_option maxHeartbeats 2000000 in
theorem rRead_any (w : World) (l : List UInt8) (hl : l.length ≤ 1000000000) :
    Calls Try.prog 17 #[.string (mkS l)] w fun e w' => (∃ v, e = .returned (.tuple #[v, .int .i64 (readC l).2]) ∧ w'.ownsRow w.heap.size 27 2 v (readC l).1.length ((readC l).1.flatMap Dot.cells)) ∧ Fr w.heap.size [] w w' := by
  obtain ⟨G, hG⟩ : ∃ G, goR (manyE l 0 2).1 [] (manyE l 0 2).2.1 (manyE l 0 2).2.2 true = G := ⟨_, rfl⟩
  have hR : readC l = endR G := by rw [← hG, go_same]; rfl
  rw [hR]
  have hRd : RRd (w.alloc (.cells #[.string (mkS l), .int .i64 0] 72)) w.heap.size l 0 := Has.new w _ _
  have hT := rTake_any _ w.heap.size l hl hRd G hG
  obtain ⟨acc, r, e, ri⟩ := G
  simp only at hT
  have hF0 := (Fr.refl w.heap.size [] w).alloc (Nat.le_refl _) (.cells #[.string (mkS l), .int .i64 0] 72)
  obtain ⟨S, hS⟩ : ∃ S, mkS l = S := ⟨_, rfl⟩
  rw [hS] at hT hF0 ⊢
  obtain ⟨E, hE⟩ : ∃ E, Hid (endR (acc, r, e, ri) = E) := ⟨_, Lib.hid rfl⟩
  rw [hE.out]
  obtain ⟨D, hD⟩ : ∃ D, Hid (doneL r e = D) := ⟨_, Lib.hid rfl⟩
  have hdn : ∀ W, RRd W w.heap.size r e → Calls Try.prog 52 #[.pointer (some ⟨w.heap.size, 0, none⟩)] W fun x w' => x = .returned (.int .i64 D) ∧ W = w' := fun W h => by
    have := rrDone_any W w.heap.size r e h
    rw [doneR_eq, hD.out] at this
    exact this
  obtain ⟨B, hB⟩ : ∃ B, Hid ((decide (e = 0) && ri) = B) := ⟨_, Lib.hid rfl⟩
  rw [hB.out] at hT
  cases B with
  | false =>
    have hEv : Hid (E = ([], 31)) := Lib.hid (by
      rw [← hE.out]; unfold endR
      have := hB.out
      rw [if_neg]
      rintro ⟨h1, h2, _⟩
      simp only at h1 h2
      rw [h1, h2] at this
      cases this)
    go_enter Try.func17, Try.ntmps17
    go_wp2_with (go_at_call 51; (with_reducible refine hT.mono ?_); rintro e w1 ⟨⟨v1, rfl, g1⟩, r1, f1⟩)
    go_ret2
    exact ⟨⟨_, by rw [hEv.out]; rfl, by rw [hEv.out]; exact World.ownsRow_nil _ _ _ _⟩, hF0.trans (f1.mono (by simp) (fun k hk _ => by simp at hk; omega))⟩
  | true =>
    by_cases hD0 : D = 0
    · have hEv : Hid (E = (acc, 0)) := Lib.hid (by
        rw [← hE.out]; unfold endR
        have h1 := hB.out
        rw [Bool.and_eq_true, decide_eq_true_eq] at h1
        have h2 := hD.out
        rw [hD0] at h2
        unfold doneL at h2
        rw [if_pos h1.1] at h2
        rw [if_pos ⟨h1.1, h1.2, by
          rcases Classical.em (r = []) with h | h
          · exact h
          · rw [if_neg h] at h2; cases h2⟩])
      have hb : (D != 0) = false := by rw [hD0]; rfl
      go_enter Try.func17, Try.ntmps17
      go_wp2_with (first
        | (go_at_call 52; (with_reducible refine (hdn _ r1).mono ?_); rintro e w2 ⟨rfl, rfl⟩)
        | (go_at_call 51; (with_reducible refine hT.mono ?_); rintro e w1 ⟨⟨v1, rfl, g1⟩, r1, f1⟩; have g2 := row_base (base := w.heap.size) (g1 rfl) (by simp); clear g1))
      go_ret2
      exact ⟨⟨_, by rw [hEv.out]; rfl, by rw [hEv.out]; exact g2⟩, hF0.trans (f1.mono (by simp) (fun k hk _ => by simp at hk; omega))⟩
    · have hEv : Hid (E = ([], 31)) := Lib.hid (by
        rw [← hE.out]; unfold endR
        rw [if_neg]
        rintro ⟨h1, h2, h3⟩
        apply hD0
        rw [← hD.out]
        simp only at h1 h3
        rw [h1, h3]
        rfl)
      have hb : (D != 0) = true := bne_iff_ne.2 hD0
      go_enter Try.func17, Try.ntmps17
      go_wp2_with (first
        | (go_at_call 52; (with_reducible refine (hdn _ r1).mono ?_); rintro e w2 ⟨rfl, rfl⟩)
        | (go_at_call 51; (with_reducible refine hT.mono ?_); rintro e w1 ⟨⟨v1, rfl, g1⟩, r1, f1⟩; clear g1))
      go_ret2
      exact ⟨⟨_, by rw [hEv.out]; rfl, by rw [hEv.out]; exact World.ownsRow_nil _ _ _ _⟩, hF0.trans (f1.mono (by simp) (fun k hk _ => by simp at hk; omega))⟩
theorem hexU_bad (c : Int) : (hexU c == 16) = decide (hexI c < 0) := by
  unfold hexU
  have := hexI_lt c
  split
  · rename_i h; simp [h]
  · rename_i h
    rw [decide_eq_false h, beq_eq_false_iff_ne]; omega
set_option maxHeartbeats 2000000 in
set_option maxRecDepth 100000 in
theorem rParse_any (w : World) (S : ByteArray) (hl : S.size ≤ 1000000000) :
    Calls Try.prog 19 #[.string S] w fun e w' => (∃ v, e = .returned (.tuple #[v, .int .i64 (parseC S.data.toList).2]) ∧ w'.ownsRow w.heap.size 27 2 v (parseC S.data.toList).1.length ((parseC S.data.toList).1.flatMap Dot.cells)) ∧ Fr w.heap.size [] w w' := by
  obtain ⟨i0, hi, hz0, hz1, hz2⟩ := info_parts infoB
  obtain ⟨l, hL⟩ : ∃ l, S.data.toList = l := ⟨_, rfl⟩
  have hSl : l.length = S.size := by rw [← hL]; simp
  rw [hL]
  obtain ⟨R, hR⟩ : ∃ R, Hid (R = parseC l) := ⟨_, Lib.hid rfl⟩
  rw [← hR.out]
  by_cases hodd : S.size % 2 = 0
  · have hb1 : ((S.size : Int) % 2 != 0) = false := by rw [bne_eq_false_iff_eq]; omega
    have HSL := Lib.hid hSl
    have HL := Lib.hid hL
    have HO := Lib.hid hodd
    clear hSl hL hodd
    go_enter Try.func19, Try.ntmps19
    go_wp2
    go_loopw [4, 5] (fun v i wr => ∃ (k : Nat) (acc : List UInt8), k ≤ S.size ∧ i = .int .i64 (k : Int) ∧ 2 * acc.length = k ∧ unhex l = (unhex (l.drop k)).map (acc ++ ·) ∧ wr.ownsRow w.heap.size 5 1 v acc.length (Lib.byteCells acc) ∧ Fr w.heap.size [] w wr) (fun _ i _ => S.size - (intOf i).toNat)
    case atStart => exact ⟨0, [], by omega, rfl, rfl, by simp, World.ownsRow_nil _ _ _ _, Fr.refl _ _ _⟩
    case round =>
      obtain ⟨k, acc, hk, rfl, hka, hun, hown, hF⟩ := hrel
      have hsz := hF.size
      have HU := Lib.hid hun
      have HK := Lib.hid hka
      clear hun hka
      by_cases hlt : k + 1 < S.size
      · have hlt0 : k < S.size := by omega
        have hx := hexI_lt (S[k].toNat : Int)
        have hy := hexI_lt (S[k + 1].toNat : Int)
        obtain ⟨hx0, hx1⟩ := hx
        obtain ⟨hy0, hy1⟩ := hy
        have hxb : S[k].toNat < 256 := S[k].toNat_lt
        have hyb : S[k + 1].toNat < 256 := S[k + 1].toNat_lt
        have s2 : (0 : Int) ≤ (k : Int) + 1 := by omega
        have s3 : ((k : Int) + 1).toNat = k + 1 := by omega
        have HD : Hid (unhex (l.drop k) = if hexI S[k].toNat < 0 ∨ hexI (S[k + 1]).toNat < 0 then none else (unhex (l.drop (k + 2))).map (UInt8.ofNat (hexI S[k].toNat * 16 + hexI (S[k + 1]).toNat).toNat :: ·)) := by
          refine Lib.hid ?_
          have := unhex_drop l k (by rw [HSL.out]; exact hlt)
          simp only [← HL.out, Array.getElem_toList] at this
          rw [← HL.out]
          exact this
        have b0 : (0 : Int) ≤ (k : Int) := by omega
        have b1 : (k : Int) < (S.size : Int) := by omega
        have b2 : (k : Int) + 1 < (S.size : Int) := by omega
        have dx := fun W => digit_any W (S[k].toNat : Int) (by omega) (by omega)
        have dy := fun W => digit_any W (S[k + 1].toNat : Int) (by omega) (by omega)
        obtain ⟨p, hp⟩ : ∃ p, hexI (S[k].toNat : Int) = p := ⟨_, rfl⟩
        obtain ⟨q, hq⟩ : ∃ q, hexI (S[k + 1].toNat : Int) = q := ⟨_, rfl⟩
        have up : hexU (S[k].toNat : Int) = if p < 0 then 16 else p := by unfold hexU; rw [hp]
        have uq : hexU (S[k + 1].toNat : Int) = if q < 0 then 16 else q := by unfold hexU; rw [hq]
        rw [hp] at hx0 hx1 HD
        rw [hq] at hy0 hy1 HD
        simp only [up] at dx
        simp only [uq] at dy
        clear up uq hp hq
        by_cases hpn : p < 0
        · have HN : Hid (R = ([], 31)) := by
            refine Lib.hid ?_
            rw [hR.out]
            unfold parseC
            rw [HU.out, HD.out, if_pos (.inl hpn)]
            rfl
          simp only [if_pos hpn] at dx
          go_wp2_with (first
            | (go_at_call 54; (with_reducible refine ((dy wr).mono fun _ _ ⟨h1, h2⟩ => (⟨h1, h2.symm⟩ : _ ∧ _)).mono ?_); rintro e w4 ⟨rfl, rfl⟩)
            | (go_at_call 54; (with_reducible refine ((dx wr).mono fun _ _ ⟨h1, h2⟩ => (⟨h1, h2.symm⟩ : _ ∧ _)).mono ?_); rintro e w3 ⟨rfl, rfl⟩))
          all_goals
            go_ret2
            rw [HN.out]
            exact ⟨⟨_, rfl, World.ownsRow_nil _ _ _ _⟩, hF⟩
        · simp only [if_neg hpn] at dx
          have p16 : (p == 16) = false := by rw [beq_eq_false_iff_ne]; omega
          by_cases hqn : q < 0
          · have HN : Hid (R = ([], 31)) := by
              refine Lib.hid ?_
              rw [hR.out]
              unfold parseC
              rw [HU.out, HD.out, if_pos (.inr hqn)]
              rfl
            simp only [if_pos hqn] at dy
            go_wp2_with (first
              | (go_at_call 54; (with_reducible refine ((dy wr).mono fun _ _ ⟨h1, h2⟩ => (⟨h1, h2.symm⟩ : _ ∧ _)).mono ?_); rintro e w4 ⟨rfl, rfl⟩)
              | (go_at_call 54; (with_reducible refine ((dx wr).mono fun _ _ ⟨h1, h2⟩ => (⟨h1, h2.symm⟩ : _ ∧ _)).mono ?_); rintro e w3 ⟨rfl, rfl⟩))
            go_ret2
            rw [HN.out]
            exact ⟨⟨_, rfl, World.ownsRow_nil _ _ _ _⟩, hF⟩
          · simp only [if_neg hqn] at dy
            have q16 : (q == 16) = false := by rw [beq_eq_false_iff_ne]; omega
            have hp0 : 0 ≤ p := by omega
            have hq0 : 0 ≤ q := by omega
            have hb0 : 0 ≤ 16 * p + q := by omega
            have hb1 : 16 * p + q < 256 := by omega
            have w1 : IntKind.u8.wrap (16 * p) = 16 * p := by rw [IntKind.wrap_u8]; omega
            have w2 : IntKind.u8.wrap (16 * p + q) = 16 * p + q := by rw [IntKind.wrap_u8]; omega
            have hle : 2 * acc.length ≤ 1000000000 := by have := HK.out; omega
            go_wp2_with (first
              | (at_builtin; (refine wpList_append_has (by rfl) (.tmp 34) (.tmp 39) 75 rfl w.heap.size 5 i0 (.int .u8 0) 1 1 Try.underlying75 hi hz0 hz1 hz2 rfl (by decide) _ acc.length _ rfl (hown.alloc _) wr.heap.size 1 [.int .u8 (16 * p + q)] rfl (Has.new wr 5 _) rfl (ones_one rfl) (by unfold maxLen; omega) (by omega) (by simp; omega) ?_; intro v' w6 hB6 hg6 hv6))
              | (go_at_call 54; (with_reducible refine ((dy wr).mono fun _ _ ⟨h1, h2⟩ => (⟨h1, h2.symm⟩ : _ ∧ _)).mono ?_); rintro e w4 ⟨rfl, rfl⟩)
              | (go_at_call 54; (with_reducible refine ((dx wr).mono fun _ _ ⟨h1, h2⟩ => (⟨h1, h2.symm⟩ : _ ∧ _)).mono ?_); rintro e w3 ⟨rfl, rfl⟩))
            rw [byteCells_snoc acc _ hb0 hb1] at hB6
            go_wp2
            go_roundw
            case rel =>
              refine ⟨k + 2, acc ++ [UInt8.ofNat (16 * p + q).toNat], by omega, by go_num, by rw [List.length_append]; have := HK.out; simp; omega, ?_, by rw [List.length_append]; exact hB6, (hF.alloc hsz _).grown hg6 (by simp; omega) (fun k hk => .inr (hown.lt k hk).1)⟩
              rw [HU.out, HD.out, if_neg (by omega), Option.map_map, show 16 * p + q = p * 16 + q by omega]
              congr 1
              funext x
              simp
            case measure => simp [intOf]; omega
      · have hkS : k = S.size := by have := HO.out; have := HK.out; omega
        subst hkS
        have HN : Hid (R = readC acc) := by
          refine Lib.hid ?_
          rw [hR.out]
          unfold parseC
          rw [HU.out, List.drop_eq_nil_of_le (by rw [HSL.out]; exact Nat.le_refl _)]
          simp [unhex]
        have hcv := run_string_bytes (P := Try.prog) Try.underlying75 Try.underlying5 Try.underlying9 hown
        have hrd := rRead_any wr acc (by have := HK.out; omega)
        have hlt' : ¬ ((S.size : Int) + 1 < (S.size : Int)) := by omega
        obtain ⟨T, HT⟩ : ∃ T : ByteArray, Hid (T = ⟨acc.toArray⟩) := ⟨_, Lib.hid rfl⟩
        rw [← HT.out] at hcv
        rw [show (mkS acc : ByteArray) = T from HT.out.symm, ← HN.out] at hrd
        go_wp2_with (go_at_call 17; (with_reducible refine hrd.mono ?_); rintro e w7 ⟨⟨v7, rfl, g7⟩, f7⟩)
        go_ret2
        exact ⟨⟨_, rfl, row_base g7 hsz⟩, hF.trans (f7.mono hsz (by simp))⟩
  · have hb1 : ((S.size : Int) % 2 != 0) = true := by rw [bne_iff_ne]; omega
    have HN : Hid (R = ([], 31)) := by
      refine Lib.hid ?_
      rw [hR.out]
      unfold parseC
      rw [unhex_odd l (by omega)]
    go_enter Try.func19, Try.ntmps19
    go_wp2
    go_ret2
    rw [HN.out]
    exact ⟨⟨_, rfl, World.ownsRow_nil _ _ _ _⟩, Fr.refl _ _ _⟩
end Go.Proofs.Ytaglginhaofgeaa
