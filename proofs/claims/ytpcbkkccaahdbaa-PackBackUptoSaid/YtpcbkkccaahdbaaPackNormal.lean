/- A thing with what its kind has alone; things, numbers in the place of counts. -/
import Derived.Test.YtpcbkkccaahdbaaPackBulk
import Derived.Test.YtpcbkkccaahdbaaPackTaken
import Derived.Deep.Cut
namespace Go.Proofs.Ytpcbkkccaahdbaa
open Go.RowKit
open Pk
def Pk.normT (t : Th) : Th := if t.kind = 2 then ⟨2, t.least, t.n % 2, ByteArray.empty⟩ else if t.kind = 3 then ⟨3, t.least, 0, t.s⟩ else if t.kind = 4 then ⟨4, t.least, 0, t.s⟩ else ⟨t.kind, t.least, t.n, ByteArray.empty⟩
def Pk.norm0 (t : Th) : Th := if t.kind = 5 then ⟨0, t.least, t.n, t.s⟩ else t
theorem fr_three {w : World} {o0 o1 o2 : Obj} : Fr w.heap.size [] w (((w.alloc o0).alloc o1).alloc o2) :=
  (((Fr.refl _ _ _).alloc (Nat.le_refl _) _).alloc (by simp) _).alloc (by simp; omega) _
set_option maxHeartbeats 1000000 in
set_option maxRecDepth 100000 in
theorem normal_2 (w : World) (ls : Int) (n : Nat) (s : ByteArray)  :
    Calls Try.prog 23 #[.agg #[.int .i64 (2), .int .i64 ls, .int .u64 n, .string s]] w fun r w' => r = .returned (.agg #[.int .i64 (2), .int .i64 ls, .int .u64 ((n : Int) % 2), .string (ByteArray.empty)]) ∧ Fr w.heap.size [] w w' := by
  go_enter Try.func23, Try.ntmps23
  go_upto_region 2 with (fail)
  obtain ⟨W0, hW0⟩ : ∃ W0, ((w.alloc (.cells #[.int .i64 (2), .int .i64 ls, .int .u64 (n : Int), .string s] 36)).alloc (.cells #[.int .i64 0, .int .i64 0, .int .u64 0, .string ByteArray.empty] 36)).alloc (.cells #[.int .i64 (2), .int .i64 ls, .int .u64 0, .string ByteArray.empty] 36) = W0 := ⟨_, rfl⟩
  have hT : Has W0 w.heap.size 36 [.int .i64 (2), .int .i64 ls, .int .u64 (n : Int), .string s] := by rw [← hW0]; exact ((Has.new w _ _).alloc _).alloc _
  have hR : Has W0 (w.heap.size + 1) 36 [.int .i64 0, .int .i64 0, .int .u64 0, .string ByteArray.empty] := by rw [← hW0]; exact (Has.new' (w.alloc _) _ _ (by simp)).alloc _
  have hO : Has W0 (w.heap.size + 1 + 1) 36 [.int .i64 (2), .int .i64 ls, .int .u64 0, .string ByteArray.empty] := by rw [← hW0]; exact Has.new' ((w.alloc _).alloc _) _ _ (by simp)
  have hF : Fr w.heap.size [] w W0 := by rw [← hW0]; exact fr_three
  refine wp_world hW0 ?_
  clear hW0
  obtain ⟨a0, a1, a2, a3, _⟩ := hT.cells4
  obtain ⟨b0, b1, b2, b3, y0, y1, y2, y3⟩ := hR.cells4
  obtain ⟨c0, c1, c2, c3, z0, z1, z2, z3⟩ := hO.cells4
  go_wp2
  have H := (((((hR.far (p := ⟨w.heap.size + 1 + 1, 2, none⟩) (by simp) (.int .u64 ((n : Int) % 2))).set 0 (.int .i64 (2))).set 1 (.int .i64 ls)).set 2 (.int .u64 ((n : Int) % 2))).set 3 (.string (ByteArray.empty)))
  obtain ⟨e0, e1, e2, e3, _⟩ := H.cells4
  refine bodyPost_ret (v := .agg #[.int .i64 (2), .int .i64 ls, .int .u64 ((n : Int) % 2), .string (ByteArray.empty)]) (by simp [results, Try.results23, go_sem, e0, e1, e2, e3]) rfl ⟨rfl, ?_⟩
  exact (((((hF).setCell (.inr (by first | (simp; done) | (simp; omega))) _).setCell (.inr (by first | (simp; done) | (simp; omega))) _).setCell (.inr (by first | (simp; done) | (simp; omega))) _).setCell (.inr (by first | (simp; done) | (simp; omega))) _).setCell (.inr (by first | (simp; done) | (simp; omega))) _
set_option maxHeartbeats 1000000 in
set_option maxRecDepth 100000 in
theorem normal_3 (w : World) (ls : Int) (n : Nat) (s : ByteArray)  :
    Calls Try.prog 23 #[.agg #[.int .i64 (3), .int .i64 ls, .int .u64 n, .string s]] w fun r w' => r = .returned (.agg #[.int .i64 (3), .int .i64 ls, .int .u64 0, .string (s)]) ∧ Fr w.heap.size [] w w' := by
  go_enter Try.func23, Try.ntmps23
  go_upto_region 2 with (fail)
  obtain ⟨W0, hW0⟩ : ∃ W0, ((w.alloc (.cells #[.int .i64 (3), .int .i64 ls, .int .u64 (n : Int), .string s] 36)).alloc (.cells #[.int .i64 0, .int .i64 0, .int .u64 0, .string ByteArray.empty] 36)).alloc (.cells #[.int .i64 (3), .int .i64 ls, .int .u64 0, .string ByteArray.empty] 36) = W0 := ⟨_, rfl⟩
  have hT : Has W0 w.heap.size 36 [.int .i64 (3), .int .i64 ls, .int .u64 (n : Int), .string s] := by rw [← hW0]; exact ((Has.new w _ _).alloc _).alloc _
  have hR : Has W0 (w.heap.size + 1) 36 [.int .i64 0, .int .i64 0, .int .u64 0, .string ByteArray.empty] := by rw [← hW0]; exact (Has.new' (w.alloc _) _ _ (by simp)).alloc _
  have hO : Has W0 (w.heap.size + 1 + 1) 36 [.int .i64 (3), .int .i64 ls, .int .u64 0, .string ByteArray.empty] := by rw [← hW0]; exact Has.new' ((w.alloc _).alloc _) _ _ (by simp)
  have hF : Fr w.heap.size [] w W0 := by rw [← hW0]; exact fr_three
  refine wp_world hW0 ?_
  clear hW0
  obtain ⟨a0, a1, a2, a3, _⟩ := hT.cells4
  obtain ⟨b0, b1, b2, b3, y0, y1, y2, y3⟩ := hR.cells4
  obtain ⟨c0, c1, c2, c3, z0, z1, z2, z3⟩ := hO.cells4
  go_wp2
  have H := (((((hR.far (p := ⟨w.heap.size + 1 + 1, 3, none⟩) (by simp) (.string s)).set 0 (.int .i64 (3))).set 1 (.int .i64 ls)).set 2 (.int .u64 0)).set 3 (.string (s)))
  obtain ⟨e0, e1, e2, e3, _⟩ := H.cells4
  refine bodyPost_ret (v := .agg #[.int .i64 (3), .int .i64 ls, .int .u64 0, .string (s)]) (by simp [results, Try.results23, go_sem, e0, e1, e2, e3]) rfl ⟨rfl, ?_⟩
  exact (((((hF).setCell (.inr (by first | (simp; done) | (simp; omega))) _).setCell (.inr (by first | (simp; done) | (simp; omega))) _).setCell (.inr (by first | (simp; done) | (simp; omega))) _).setCell (.inr (by first | (simp; done) | (simp; omega))) _).setCell (.inr (by first | (simp; done) | (simp; omega))) _
set_option maxHeartbeats 1000000 in
set_option maxRecDepth 100000 in
theorem normal_4 (w : World) (ls : Int) (n : Nat) (s : ByteArray)  :
    Calls Try.prog 23 #[.agg #[.int .i64 (4), .int .i64 ls, .int .u64 n, .string s]] w fun r w' => r = .returned (.agg #[.int .i64 (4), .int .i64 ls, .int .u64 0, .string (s)]) ∧ Fr w.heap.size [] w w' := by
  go_enter Try.func23, Try.ntmps23
  go_upto_region 2 with (fail)
  obtain ⟨W0, hW0⟩ : ∃ W0, ((w.alloc (.cells #[.int .i64 (4), .int .i64 ls, .int .u64 (n : Int), .string s] 36)).alloc (.cells #[.int .i64 0, .int .i64 0, .int .u64 0, .string ByteArray.empty] 36)).alloc (.cells #[.int .i64 (4), .int .i64 ls, .int .u64 0, .string ByteArray.empty] 36) = W0 := ⟨_, rfl⟩
  have hT : Has W0 w.heap.size 36 [.int .i64 (4), .int .i64 ls, .int .u64 (n : Int), .string s] := by rw [← hW0]; exact ((Has.new w _ _).alloc _).alloc _
  have hR : Has W0 (w.heap.size + 1) 36 [.int .i64 0, .int .i64 0, .int .u64 0, .string ByteArray.empty] := by rw [← hW0]; exact (Has.new' (w.alloc _) _ _ (by simp)).alloc _
  have hO : Has W0 (w.heap.size + 1 + 1) 36 [.int .i64 (4), .int .i64 ls, .int .u64 0, .string ByteArray.empty] := by rw [← hW0]; exact Has.new' ((w.alloc _).alloc _) _ _ (by simp)
  have hF : Fr w.heap.size [] w W0 := by rw [← hW0]; exact fr_three
  refine wp_world hW0 ?_
  clear hW0
  obtain ⟨a0, a1, a2, a3, _⟩ := hT.cells4
  obtain ⟨b0, b1, b2, b3, y0, y1, y2, y3⟩ := hR.cells4
  obtain ⟨c0, c1, c2, c3, z0, z1, z2, z3⟩ := hO.cells4
  go_wp2
  have H := (((((hR.far (p := ⟨w.heap.size + 1 + 1, 3, none⟩) (by simp) (.string s)).set 0 (.int .i64 (4))).set 1 (.int .i64 ls)).set 2 (.int .u64 0)).set 3 (.string (s)))
  obtain ⟨e0, e1, e2, e3, _⟩ := H.cells4
  refine bodyPost_ret (v := .agg #[.int .i64 (4), .int .i64 ls, .int .u64 0, .string (s)]) (by simp [results, Try.results23, go_sem, e0, e1, e2, e3]) rfl ⟨rfl, ?_⟩
  exact (((((hF).setCell (.inr (by first | (simp; done) | (simp; omega))) _).setCell (.inr (by first | (simp; done) | (simp; omega))) _).setCell (.inr (by first | (simp; done) | (simp; omega))) _).setCell (.inr (by first | (simp; done) | (simp; omega))) _).setCell (.inr (by first | (simp; done) | (simp; omega))) _
set_option maxHeartbeats 1000000 in
set_option maxRecDepth 100000 in
theorem normal_5 (w : World) (ls : Int) (n : Nat) (s : ByteArray) (k : Int) (k2 : (k == 2) = false) (k3 : (k == 3) = false) (k4 : (k == 4) = false) :
    Calls Try.prog 23 #[.agg #[.int .i64 (k), .int .i64 ls, .int .u64 n, .string s]] w fun r w' => r = .returned (.agg #[.int .i64 (k), .int .i64 ls, .int .u64 (n : Int), .string (ByteArray.empty)]) ∧ Fr w.heap.size [] w w' := by
  go_enter Try.func23, Try.ntmps23
  go_upto_region 2 with (fail)
  obtain ⟨W0, hW0⟩ : ∃ W0, ((w.alloc (.cells #[.int .i64 (k), .int .i64 ls, .int .u64 (n : Int), .string s] 36)).alloc (.cells #[.int .i64 0, .int .i64 0, .int .u64 0, .string ByteArray.empty] 36)).alloc (.cells #[.int .i64 (k), .int .i64 ls, .int .u64 0, .string ByteArray.empty] 36) = W0 := ⟨_, rfl⟩
  have hT : Has W0 w.heap.size 36 [.int .i64 (k), .int .i64 ls, .int .u64 (n : Int), .string s] := by rw [← hW0]; exact ((Has.new w _ _).alloc _).alloc _
  have hR : Has W0 (w.heap.size + 1) 36 [.int .i64 0, .int .i64 0, .int .u64 0, .string ByteArray.empty] := by rw [← hW0]; exact (Has.new' (w.alloc _) _ _ (by simp)).alloc _
  have hO : Has W0 (w.heap.size + 1 + 1) 36 [.int .i64 (k), .int .i64 ls, .int .u64 0, .string ByteArray.empty] := by rw [← hW0]; exact Has.new' ((w.alloc _).alloc _) _ _ (by simp)
  have hF : Fr w.heap.size [] w W0 := by rw [← hW0]; exact fr_three
  refine wp_world hW0 ?_
  clear hW0
  obtain ⟨a0, a1, a2, a3, _⟩ := hT.cells4
  obtain ⟨b0, b1, b2, b3, y0, y1, y2, y3⟩ := hR.cells4
  obtain ⟨c0, c1, c2, c3, z0, z1, z2, z3⟩ := hO.cells4
  go_wp2
  have H := (((((hR.far (p := ⟨w.heap.size + 1 + 1, 2, none⟩) (by simp) (.int .u64 (n : Int))).set 0 (.int .i64 (k))).set 1 (.int .i64 ls)).set 2 (.int .u64 (n : Int))).set 3 (.string (ByteArray.empty)))
  obtain ⟨e0, e1, e2, e3, _⟩ := H.cells4
  refine bodyPost_ret (v := .agg #[.int .i64 (k), .int .i64 ls, .int .u64 (n : Int), .string (ByteArray.empty)]) (by simp [results, Try.results23, go_sem, e0, e1, e2, e3]) rfl ⟨rfl, ?_⟩
  exact (((((hF).setCell (.inr (by first | (simp; done) | (simp; omega))) _).setCell (.inr (by first | (simp; done) | (simp; omega))) _).setCell (.inr (by first | (simp; done) | (simp; omega))) _).setCell (.inr (by first | (simp; done) | (simp; omega))) _).setCell (.inr (by first | (simp; done) | (simp; omega))) _
theorem normT_2 {ls : Int} {n : Nat} {s : ByteArray} : normT ⟨2, ls, n, s⟩ = ⟨2, ls, n % 2, ByteArray.empty⟩ := by unfold normT; exact if_pos rfl
theorem normT_3 {ls : Int} {n : Nat} {s : ByteArray} : normT ⟨3, ls, n, s⟩ = ⟨3, ls, 0, s⟩ := by unfold normT; simp
theorem normT_4 {ls : Int} {n : Nat} {s : ByteArray} : normT ⟨4, ls, n, s⟩ = ⟨4, ls, 0, s⟩ := by unfold normT; simp
theorem normT_5 {k ls : Int} {n : Nat} {s : ByteArray} (h2 : k ≠ 2) (h3 : k ≠ 3) (h4 : k ≠ 4) : normT ⟨k, ls, n, s⟩ = ⟨k, ls, n, ByteArray.empty⟩ := by unfold normT; simp only [if_neg h2, if_neg h3, if_neg h4]
theorem normal_any (w : World) (t : Th) : Calls Try.prog 23 #[t.val] w fun r w' => r = .returned (normT t).val ∧ Fr w.heap.size [] w w' := by
  obtain ⟨k, ls, n, s⟩ := t
  unfold Th.val
  rcases (show k = 2 ∨ k = 3 ∨ k = 4 ∨ (k ≠ 2 ∧ k ≠ 3 ∧ k ≠ 4) by omega) with rfl | rfl | rfl | ⟨h2, h3, h4⟩
  · rw [normT_2]
    have := normal_2 w ls n s
    rw [show (n : Int) % 2 = ((n % 2 : Nat) : Int) by omega] at this
    exact this
  · rw [normT_3]; exact normal_3 w ls n s
  · rw [normT_4]; exact normal_4 w ls n s
  · rw [normT_5 h2 h3 h4]; exact normal_5 w ls n s k (beq_eq_false_iff_ne.2 h2) (beq_eq_false_iff_ne.2 h3) (beq_eq_false_iff_ne.2 h4)
theorem ones_four {a b c d : Value} (ha : a.oneCell' = true) (hb : b.oneCell' = true) (hc : c.oneCell' = true) (hd : d.oneCell' = true) : ∀ u ∈ [a, b, c, d], u.oneCell' = true := by
  intro u hu
  simp only [List.mem_cons, List.not_mem_nil, or_false] at hu
  rcases hu with rfl | rfl | rfl | rfl <;> assumption
theorem infoThing : (Try.prog.info? 36).map (fun i => (i.zero, i.size, i.bytes)) = some (some (.agg #[.int .i64 0, .int .i64 0, .int .u64 0, .string ⟨#[]⟩]), 4, 40) := by kernel_rfl
set_option maxHeartbeats 1000000 in
set_option maxRecDepth 100000 in
theorem plain_any (w : World) (A : Option Addr) (c : Nat) (ts : List Th) (h : ARow w w.heap.size A (ts.flatMap Th.cells)) (hl : ts.length ≤ 100000000) :
    Calls Try.prog 21 #[.slice A ts.length c] w fun e w' => ∃ v, e = .returned v ∧ w'.ownsRow w.heap.size 36 4 v ts.length ((ts.map norm0).flatMap Th.cells) ∧ Fr w.heap.size [] w w' := by
  obtain ⟨i0, hi, hz0, hz1, hz2⟩ := info_parts infoThing
  go_enter Try.func21, Try.ntmps21
  go_wp2
  go_loopw [3, 4] (fun out i wr => ∃ k : Nat, k ≤ ts.length ∧ i = .int .i64 (k : Int) ∧ wr.ownsRow w.heap.size 36 4 out k (((ts.take k).map norm0).flatMap Th.cells) ∧ Fr w.heap.size [] w wr) (fun _ i _ => ts.length - (intOf i).toNat)
  case atStart => exact ⟨0, by omega, rfl, World.ownsRow_nil _ _ _ _, Fr.refl _ _ _⟩
  case round =>
    obtain ⟨k, hk, rfl, hown, hF⟩ := hrel
    by_cases hlt : k < ts.length
    · obtain ⟨x, hx⟩ : ∃ x, Hid (x = ts[k]'hlt) := ⟨ts[k]'hlt, rfl⟩
      obtain ⟨blk, o, hA, hbk, hc⟩ := h.at (c := 4) (fun _ => rfl) (by decide) k hlt
      rw [← hx.out] at hc
      subst hA
      have d0 := (hF.cell (p := ⟨blk, o + k * 4 + 0, none⟩) hbk (by simp)).trans (hc 0 _ rfl)
      have d1 := (hF.cell (p := ⟨blk, o + k * 4 + 1, none⟩) hbk (by simp)).trans (hc 1 _ rfl)
      have d2 := (hF.cell (p := ⟨blk, o + k * 4 + 2, none⟩) hbk (by simp)).trans (hc 2 _ rfl)
      have d3 := (hF.cell (p := ⟨blk, o + k * 4 + 3, none⟩) hbk (by simp)).trans (hc 3 _ rfl)
      rw [Nat.add_zero] at d0
      have hki : (k : Int) < ts.length := by omega
      have hsz := hF.size
      have htk : ((ts.take (k + 1)).map norm0).flatMap Th.cells = ((ts.take k).map norm0).flatMap Th.cells ++ (norm0 x).cells := by
        rw [List.take_succ_eq_append_getElem hlt, ← hx.out, List.map_append, List.flatMap_append]
        simp
      by_cases h5 : x.kind = 5
      all_goals
        first
          | (have hb5 := beq_iff_eq.2 h5
             have hy : (norm0 x).cells = [.int .i64 0, .int .i64 x.least, .int .u64 (x.n : Int), .string x.s] := by unfold norm0; rw [if_pos h5]; rfl)
          | (have hb5 := beq_eq_false_iff_ne.2 h5
             have hy : (norm0 x).cells = [.int .i64 x.kind, .int .i64 x.least, .int .u64 (x.n : Int), .string x.s] := by unfold norm0; rw [if_neg h5]; rfl)
        rw [hy] at htk
        have HT := Lib.hid htk
        clear htk hy
        go_upto_region 8 with (fail)
        go_wp2_with (at_builtin; refine wpList_append_has (by rfl) (.tmp 20) (.tmp 22) 22 rfl w.heap.size 36 i0 (.agg #[.int .i64 0, .int .i64 0, .int .u64 0, .string ⟨#[]⟩]) 4 40 Try.underlying22 hi hz0 hz1 hz2 rfl (by decide) _ k _ (by rfl) ((hown.alloc _).alloc _) (wr.heap.size + 1) 1 _ (by rfl) (Has.new' (wr.alloc _) 36 _ (by simp)) rfl (ones_four rfl rfl rfl rfl) (by unfold maxLen; omega) (by omega) (by simp; omega) ?_; intro v' w2 hB2 hg2 hv2)
        go_roundw
        case rel =>
          refine ⟨k + 1, by omega, by go_num, ?_, ((hF.alloc hsz _).alloc (by simp; omega) _).grown hg2 (by simp; omega) (fun q hq => .inr (hown.lt q hq).1)⟩
          rw [HT.out]
          exact hB2
        case measure => simp [intOf]; omega
    · have hkn : k = ts.length := by omega
      have hki : ¬ ((k : Int) < ts.length) := by omega
      rw [hkn, List.take_length] at hown
      subst hkn
      go_wp2
      go_ret
      exact ⟨_, rfl, hown, hF⟩
end Go.Proofs.Ytpcbkkccaahdbaa
