/- Clocks: dots. -/
import Derived.Test.YtcemlacfldonlaaSlices
import Derived.Test.YtcemlacfldonlaaProg
import Derived.Lib.Hide
import Derived.Outline
import Derived.Deep.Cut
import Derived.Deep.RegionWith
namespace Go.Proofs.Ytcemlacfldonlaa
open Go.RowKit
namespace Ck
structure Dot where
  a : Nat
  n : Nat
deriving DecidableEq, Inhabited
def Dot.cells (d : Dot) : List Value := [.int .u64 (d.a : Int), .int .u64 (d.n : Int)]
def Dot.ok (d : Dot) : Prop := d.a < 18446744073709551616 ∧ d.n < 18446744073709551616
/-- What cmp.Compare tells. -/
def cmpN (x y : Nat) : Int := if x < y then -1 else if y < x then 1 else 0
end Ck
open Ck
theorem nan_any (w : World) (x : Int) : Calls Try.prog 51 #[.int .u64 x] w fun e w' => e = .returned (.bool false) ∧ w' = w := by
  go_enter Try.func51, Try.ntmps51
  go_wp2
  go_ret
  exact ⟨by simp, rfl⟩
set_option maxHeartbeats 1000000 in
theorem cmp_any (w : World) (x y : Nat) : Calls Try.prog 38 #[.int .u64 (x : Int), .int .u64 (y : Int)] w fun e w' => e = .returned (.int .i64 (cmpN x y)) ∧ w' = w := by
  unfold cmpN
  rcases Nat.lt_trichotomy x y with h | h | h
  · have h1 : (x : Int) < (y : Int) := by omega
    rw [if_pos h]
    go_enter Try.func38, Try.ntmps38
    go_wp2_with (go_at_call 51; (refine (nan_any _ _).mono ?_); rintro e w1 ⟨rfl, rfl⟩)
    go_ret
    exact ⟨rfl, rfl⟩
  · have h1 : ¬ (x : Int) < (y : Int) := by omega
    have h2 : ¬ (y : Int) < (x : Int) := by omega
    rw [if_neg (by omega), if_neg (by omega)]
    go_enter Try.func38, Try.ntmps38
    go_wp2_with (go_at_call 51; (refine (nan_any _ _).mono ?_); rintro e w1 ⟨rfl, rfl⟩)
    go_ret
    exact ⟨rfl, rfl⟩
  · have h1 : ¬ (x : Int) < (y : Int) := by omega
    have h2 : (y : Int) < (x : Int) := by omega
    rw [if_neg (by omega), if_pos h]
    go_enter Try.func38, Try.ntmps38
    go_wp2_with (go_at_call 51; (refine (nan_any _ _).mono ?_); rintro e w1 ⟨rfl, rfl⟩)
    go_ret
    exact ⟨rfl, rfl⟩
set_option maxHeartbeats 1000000 in
/-- The law by which the search goes. -/
theorem mergeF_any (w : World) (d : Dot) (y : Nat) : Calls Try.prog 37 #[.agg #[.int .u64 (d.a : Int), .int .u64 (d.n : Int)], .int .u64 (y : Int)] w fun e w' => e = .returned (.int .i64 (cmpN d.a y)) ∧ Fr w.heap.size [] w w' := by
  go_enter Try.func37, Try.ntmps37
  go_wp2_with (go_at_call 38; (refine (cmp_any _ _ _).mono ?_); rintro e w1 ⟨rfl, rfl⟩)
  go_ret
  exact ⟨rfl, by first | exact Fr.refl _ _ _ | exact (Fr.refl _ _ _).alloc (Nat.le_refl _) _⟩
end Go.Proofs.Ytcemlacfldonlaa
