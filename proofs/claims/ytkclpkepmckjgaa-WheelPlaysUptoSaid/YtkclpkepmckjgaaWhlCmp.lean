/- cmp.Compare, cmp.Or at ints; the closure that compares two names. -/
import Derived.Test.YtkclpkepmckjgaaWhlSpec
namespace Go.Proofs.Ytkclpkepmckjgaa
open Go.RowKit Go.Maps
open Wh
theorem nan_int (w : World) (x : Int) : Calls Try.prog 29 #[.int .i64 x] w fun e w' => e = .returned (.bool false) ∧ w = w' := by
  have hb : (x == x) = true := by simp
  go_enter Try.func29, Try.ntmps29
  go_wp2
  go_ret
  exact ⟨by simp, rfl⟩
def Wh.cmpI (x y : Int) : Int := if x < y then -1 else if y < x then 1 else 0
theorem cmp_int (w : World) (x y : Int) : Calls Try.prog 25 #[.int .i64 x, .int .i64 y] w fun e w' => e = .returned (.int .i64 (cmpI x y)) ∧ w = w' := by
  unfold cmpI
  by_cases h1 : x < y
  · go_enter Try.func25, Try.ntmps25
    go_wp2_with (first
      | (go_at_call 29; (refine (nan_int _ x).mono ?_); rintro e w1 ⟨rfl, rfl⟩)
      | (go_at_call 29; (refine (nan_int _ y).mono ?_); rintro e w1 ⟨rfl, rfl⟩))
    go_ret
    exact ⟨by simp, rfl⟩
  · by_cases h2 : y < x
    · go_enter Try.func25, Try.ntmps25
      go_wp2_with (first
        | (go_at_call 29; (refine (nan_int _ x).mono ?_); rintro e w1 ⟨rfl, rfl⟩)
        | (go_at_call 29; (refine (nan_int _ y).mono ?_); rintro e w1 ⟨rfl, rfl⟩))
      go_ret
      exact ⟨by simp, rfl⟩
    · go_enter Try.func25, Try.ntmps25
      go_wp2_with (first
        | (go_at_call 29; (refine (nan_int _ x).mono ?_); rintro e w1 ⟨rfl, rfl⟩)
        | (go_at_call 29; (refine (nan_int _ y).mono ?_); rintro e w1 ⟨rfl, rfl⟩))
      go_ret
      exact ⟨by simp, rfl⟩
def Wh.orI (a b : Int) : Int := if a ≠ 0 then a else b
set_option maxHeartbeats 1000000 in
theorem or_int (w : World) (blk : Nat) (c : Nat) (a b : Int) (h0 : w.cell? ⟨blk, 0, none⟩ = some (.int .i64 a)) (h1 : w.cell? ⟨blk, 1, none⟩ = some (.int .i64 b)) :
    Calls Try.prog 24 #[.slice (some ⟨blk, 0, none⟩) 2 c] w fun e w' => e = .returned (.int .i64 (orI a b)) ∧ w = w' := by
  go_enter Try.func24, Try.ntmps24
  go_wp2
  go_loop [8] (fun i => ∃ k : Nat, k ≤ 2 ∧ i = .int .i64 (k : Int) ∧ (0 < k → a = 0) ∧ (1 < k → b = 0)) (fun i => 2 - (intOf i).toNat)
  case atStart => exact ⟨0, by omega, rfl, fun h => absurd h (by omega), fun h => absurd h (by omega)⟩
  case round =>
    obtain ⟨k, hk, rfl, ha, hb⟩ := hrel
    rcases (show k = 0 ∨ k = 1 ∨ k = 2 by omega) with rfl | rfl | rfl
    · by_cases h : a = 0
      · subst h
        go_wp2
        go_round
        case rel => exact ⟨1, by omega, rfl, by simp, by simp⟩
        case measure => decide
      · have h' : (a == 0) = false := by simpa using h
        go_wp2
        go_ret
        exact ⟨by simp [orI, h], rfl⟩
    · obtain rfl := ha (by omega)
      by_cases h : b = 0
      · subst h
        go_wp2
        go_round
        case rel => exact ⟨2, by omega, rfl, by simp, by simp⟩
        case measure => decide
      · have h' : (b == 0) = false := by simpa using h
        go_wp2
        go_ret
        exact ⟨by simp [orI], rfl⟩
    · obtain rfl := ha (by omega)
      obtain rfl := hb (by omega)
      go_wp2
      go_ret
      exact ⟨rfl, rfl⟩
end Go.Proofs.Ytkclpkepmckjgaa
