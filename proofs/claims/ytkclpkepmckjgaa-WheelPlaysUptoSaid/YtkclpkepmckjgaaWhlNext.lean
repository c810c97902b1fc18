/- Next; the nil wheel's Due, Next. -/
import Derived.Test.YtkclpkepmckjgaaWhlDue
namespace Go.Proofs.Ytkclpkepmckjgaa
open Go.RowKit Go.Maps Go.Sort Go.Shelf
open Wh
set_option maxHeartbeats 1000000 in
theorem wdue_nil (w : World) (now : Int) : Calls Try.prog 10 #[.pointer none, .int .i64 now] w fun e w' => e = .returned (.slice none 0 0) ∧ Fr w.heap.size [] w w' := by
  go_enter Try.func10, Try.ntmps10
  go_upto_region 2 with (
    go_at_call 20
    refine (wsorted_nil w).mono ?_
    rintro e w1 ⟨rfl, q4⟩)
  go_wp2
  go_loopw [6] (fun i wr => i = .int .i64 0 ∧ Fr w.heap.size [] w wr) (fun i _ => 0)
  case atStart => exact ⟨rfl, q4⟩
  case round =>
    obtain ⟨rfl, g3⟩ := hrel
    go_upto_region 3 with fail
    go_quiet (fail)
    go_wp2_with (go_at_call 9; (with_reducible refine (wcancel_nil _ none 0 0).mono ?_); rintro e w2 ⟨rfl, rfl⟩)
    go_ret
    exact ⟨rfl, g3.drewN _⟩
set_option maxHeartbeats 1000000 in
theorem wnext_nil (w : World) : Calls Try.prog 15 #[.pointer none] w fun e w' => e = .returned (.tuple #[.int .i64 0, .bool false]) ∧ Fr w.heap.size [] w w' := by
  go_enter Try.func15, Try.ntmps15
  go_wp2_with (
    go_at_call 20
    refine (wsorted_nil w).mono ?_
    rintro e w1 ⟨rfl, q4⟩)
  refine bodyPost_ret (v := .tuple #[.int .i64 0, .bool false]) (by simp [results, Try.results15, go_sem]) rfl ⟨rfl, q4⟩
def Wh.nextV (D : List (Key × Tm)) : List Key → Value
  | [] => .tuple #[.int .i64 0, .bool false]
  | t :: _ => .tuple #[.int .i64 (tm D t).at_, .bool true]
set_option maxHeartbeats 1000000 in
theorem wnext_any (w : World) (g : Nat) (F : List Nat) (n : Int) (D : List (Key × Tm)) (h : WhIs w g F n D) (hl : D.length ≤ 8796093022208) (hD : ∀ k ∈ D.map Prod.fst, (getL D k).isSome = true) :
    Calls Try.prog 15 #[.pointer (some ⟨g, 0, none⟩)] w fun e w' => ∃ ts : List Key, e = .returned (nextV D ts) ∧ ts.Perm (D.map Prod.fst) ∧ ts.Pairwise (fun a b => ltOf (cfD D) b a = false) ∧ Fr w.heap.size [] w w' := by
  have hsort := wsorted_any w g F n D h hl
  go_enter Try.func15, Try.ntmps15
  go_upto_region 2 with (
    go_at_call 20
    refine hsort.mono ?_
    rintro e w1 ⟨A, c, ts, rfl, q1, q2, q3, q4⟩)
  match ts, q1, q2, q3 with
  | [], q1, q2, q3 =>
    go_wp2
    refine bodyPost_ret (v := .tuple #[.int .i64 0, .bool false]) (by simp [results, Try.results15, go_sem]) rfl ⟨[], rfl, q1, q2, q4⟩
  | t :: ts, q1, q2, q3 =>
    rcases row_str q3 with ⟨-, -, h0⟩ | ⟨blk, cs, rfl, r1, r2, r3, r4, r5, r6⟩
    · cases h0
    · have e0 : w1.cell? ⟨blk, 0, none⟩ = some (KV t) := cell_str r2 r3 0 (by simp)
      have hat := wat_any w1 g F n D (h.fr0 q4) t
      rw [hD t (q1.mem_iff.1 (by simp))] at hat
      obtain ⟨N, hN⟩ : ∃ N, (t :: ts).length = N := ⟨_, rfl⟩
      have hN0 : (0 : Int) < N := by rw [← hN, List.length_cons]; omega
      have hN1 : ((N : Int) == 0) = false := beq_false_of_ne (by omega)
      rw [hN]
      go_wp2_with (go_at_call 18; (with_reducible refine hat.mono ?_); rintro e w2 ⟨rfl, p2⟩)
      refine bodyPost_ret (v := .tuple #[.int .i64 (tm D t).at_, .bool true]) (by simp [results, Try.results15, go_sem]; rfl) rfl ⟨t :: ts, rfl, q1, q2, q4.trans (p2.mono q4.size (by simp))⟩
end Go.Proofs.Ytkclpkepmckjgaa
