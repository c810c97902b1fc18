/- Len, At, New. -/
import Derived.Test.YtkclpkepmckjgaaWhlSpec
import Derived.Maps.OwnSet
namespace Go.Proofs.Ytkclpkepmckjgaa
open Go.RowKit Go.Maps
open Wh
set_option maxHeartbeats 1000000 in
theorem wnew_any (w : World) : Calls Try.prog 7 #[] w fun e w' => e = .returned (.pointer (some ⟨w.heap.size, 0, none⟩)) ∧ WhIs w' w.heap.size [w.heap.size] 0 [] ∧ Fr w.heap.size [] w w' := by
  go_enter Try.func7, Try.ntmps7
  go_wp2
  go_ret
  exact ⟨rfl, ⟨⟨.map none, Has.new w _ [.map none, .int .i64 0], .inl ⟨rfl, rfl⟩⟩, by simp, by simp⟩, (Fr.refl _ _ _).alloc (Nat.le_refl _) _⟩
set_option maxHeartbeats 1000000 in
theorem wlen_nil (w : World) : Calls Try.prog 17 #[.pointer none] w fun e w' => e = .returned (.int .i64 0) ∧ w = w' := by
  go_enter Try.func17, Try.ntmps17
  go_wp2
  go_ret
  exact ⟨rfl, rfl⟩
theorem map_len {w : World} {mp : Value} {F : List Nat} {D : List (Key × Tm)} (h : MapOf w mp F D) (ty : TypeId) : (Builtin.len_ #[47] ty #[mp]).run Try.prog w = .ok (.int .i64 D.length) w := by
  rcases h with ⟨rfl, rfl⟩ | ⟨b, rfl, h, _⟩
  · exact Maps.len_nil Try.underlying47 ty
  · obtain ⟨es, clock, h1, h2, _⟩ := h
    have hlen : es.size = D.length := by simpa using congrArg List.length h2
    simp [Builtin.len_, run_underlying Try.underlying47, MapKept.run_getObj_map h1, goInt, Result.andThen, hlen]
set_option maxHeartbeats 1000000 in
theorem wlen_any (w : World) (g : Nat) (F : List Nat) (n : Int) (D : List (Key × Tm)) (h : WhIs w g F n D) : Calls Try.prog 17 #[.pointer (some ⟨g, 0, none⟩)] w fun e w' => e = .returned (.int .i64 D.length) ∧ w = w' := by
  obtain ⟨mp, h1, h2⟩ := h.ex
  have c0 : w.cell? ⟨g, 0, none⟩ = some mp := h1.cell 0
  have hl := map_len h2
  go_enter Try.func17, Try.ntmps17
  go_wp2
  go_ret
  exact ⟨rfl, rfl⟩
set_option maxHeartbeats 1000000 in
theorem wat_nil (w : World) (p : Key) : Calls Try.prog 18 #[.pointer none, KV p] w fun e w' => e = .returned (.tuple #[.int .i64 0, .bool false]) ∧ w = w' := by
  go_enter Try.func18, Try.ntmps18
  go_wp2
  refine bodyPost_ret (v := .tuple #[.int .i64 0, .bool false]) (by simp [results, Try.results18, go_sem]) rfl ⟨rfl, rfl⟩
set_option maxHeartbeats 1000000 in
theorem wat_any (w : World) (g : Nat) (F : List Nat) (n : Int) (D : List (Key × Tm)) (h : WhIs w g F n D) (p : Key) :
    Calls Try.prog 18 #[.pointer (some ⟨g, 0, none⟩), KV p] w fun e w' => e = .returned (.tuple #[.int .i64 ((getL D p).getD zT).at_, .bool (getL D p).isSome]) ∧ Fr w.heap.size [] w w' := by
  obtain ⟨mp, h1, h2⟩ := h.ex
  have c0 : w.cell? ⟨g, 0, none⟩ = some mp := h1.cell 0
  have hl := timers_look2 h2 p
  obtain ⟨x, hx⟩ : ∃ x, (getL D p).getD zT = x := ⟨_, rfl⟩
  obtain ⟨s, hs⟩ : ∃ s, (getL D p).isSome = s := ⟨_, rfl⟩
  rw [hx, hs] at hl
  rw [hx, hs]
  clear hx hs
  obtain ⟨x0, x1⟩ := x
  unfold TV at hl
  go_enter Try.func18, Try.ntmps18
  go_wp2
  refine bodyPost_ret (v := .tuple #[.int .i64 x0, .bool s]) (by simp [results, Try.results18, go_sem]) rfl ⟨rfl, (Fr.refl _ _ _).alloc (Nat.le_refl _) _⟩
end Go.Proofs.Ytkclpkepmckjgaa
