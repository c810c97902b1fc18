/- cell.of, state.cell, cell.Join at a cell that has nothing. -/
import Derived.Test.YtcemlacfldonlaaQuoCell
namespace Go.Proofs.Ytcemlacfldonlaa
open Go.RowKit
open Ck
set_option linter.unusedSimpArgs false
/-- What a drawn region keeps: a cell's box. -/
abbrev SC (w : World) (t : TypeId) (k : Int) (A : Option Addr) (c : Nat) (W : World) : Prop := Fr w.heap.size [] w W ∧ Has W w.heap.size t [.int .i64 k, .slice A 0 c, .slice none 0 0, .slice none 0 0] ∧ W.cell? ⟨w.heap.size, 0, none⟩ = some (.int .i64 k) ∧ W.cell? ⟨w.heap.size, 1, none⟩ = some (.slice A 0 c) ∧ W.cell? ⟨w.heap.size, 2, none⟩ = some (.slice none 0 0) ∧ W.cell? ⟨w.heap.size, 3, none⟩ = some (.slice none 0 0)
section
variable {w W W' : World} {t : TypeId} {k : Int} {A : Option Addr} {c : Nat}
theorem sc_of (f : Fr w.heap.size [] w W) (h : Has W w.heap.size t [.int .i64 k, .slice A 0 c, .slice none 0 0, .slice none 0 0]) : SC w t k A c W := ⟨f, h, h.cell 0, h.cell 1, h.cell 2, h.cell 3⟩
theorem sc_step (f : Fr W.heap.size [] W W') (h : SC w t k A c W) : SC w t k A c W' := sc_of (h.1.trans (f.mono h.1.size (by simp))) (h.2.1.fr f h.2.1.lt (by simp))
theorem sc_alloc (h : SC w t k A c W) (o : Obj) : SC w t k A c (W.alloc o) := sc_of (h.1.alloc h.1.size o) (h.2.1.alloc o)
theorem sc_set (h : SC w t k A c W) {b : Nat} (hb : w.heap.size < b) (i : Nat) (v : Value) : SC w t k A c (W.setCell ⟨b, i, none⟩ v) := sc_of (h.1.setCell (.inr (Nat.le_of_lt hb)) v) (h.2.1.far (Nat.ne_of_lt hb) v)
theorem sc_set4 (h : SC w t k A c W) {b : Nat} (hb : w.heap.size < b) (v0 v1 v2 v3 : Value) : SC w t k A c ((((W.setCell ⟨b, 0, none⟩ v0).setCell ⟨b, 1, none⟩ v1).setCell ⟨b, 2, none⟩ v2).setCell ⟨b, 3, none⟩ v3) := sc_set (sc_set (sc_set (sc_set h hb 0 v0) hb 1 v1) hb 2 v2) hb 3 v3
end
section
variable (w : World)
set_option maxHeartbeats 10000000
set_option maxRecDepth 100000
theorem of_nil (k : Int) (A : Option Addr) (c : Nat) : Calls Try.prog 27 #[.agg #[.int .i64 k, .slice A 0 c, .slice none 0 0, .slice none 0 0]] w fun e w' => (∃ A' c', e = .returned (.agg #[.int .i64 k, .slice A' 0 c', .slice none 0 0, .slice none 0 0])) ∧ Fr w.heap.size [] w w' := by
  have V1 := (Has.new w 37 [.int .i64 k, .slice A 0 c, .slice none 0 0, .slice none 0 0]).alloc (.cells #[.int .i64 0, .slice none 0 0, .slice none 0 0, .slice none 0 0] 78)
  have V := Has.new (w.alloc (.cells #[.int .i64 k, .slice A 0 c, .slice none 0 0, .slice none 0 0] 37)) 78 [.int .i64 0, .slice none 0 0, .slice none 0 0, .slice none 0 0]
  rw [show (w.alloc (.cells #[.int .i64 k, .slice A 0 c, .slice none 0 0, .slice none 0 0] 37)).heap.size = w.heap.size + 1 by simp] at V
  have f1 := ((Fr.refl w.heap.size [] w).alloc (Nat.le_refl _) (.cells #[.int .i64 k, .slice A 0 c, .slice none 0 0, .slice none 0 0] 37)).alloc (by simp) (.cells #[.int .i64 0, .slice none 0 0, .slice none 0 0, .slice none 0 0] 78)
  go_enter Try.func27, Try.ntmps27
  go_upto_region 1 with fail
  obtain ⟨W0, hW0⟩ : ∃ W0, W0 = (w.alloc (.cells #[.int .i64 k, .slice A 0 c, .slice none 0 0, .slice none 0 0] 37)).alloc (.cells #[.int .i64 0, .slice none 0 0, .slice none 0 0, .slice none 0 0] 78) := ⟨_, rfl⟩
  rw [← hW0] at V1 V f1 ⊢
  clear hW0
  replace V := V.drew
  have T : SC w 37 k A c W0.drew := sc_of f1.drew V1
  have hb1 : w.heap.size < w.heap.size + 1 := Nat.lt_succ_self _
  clear V1 f1
  go_region_held3 (fun W => Fr w.heap.size [] w W ∧ Has W w.heap.size 37 [.int .i64 k, .slice A 0 c, .slice none 0 0, .slice none 0 0] ∧ W.cell? ⟨w.heap.size, 0, none⟩ = some (.int .i64 k) ∧ W.cell? ⟨w.heap.size, 1, none⟩ = some (.slice A 0 c) ∧ W.cell? ⟨w.heap.size, 2, none⟩ = some (.slice none 0 0) ∧ W.cell? ⟨w.heap.size, 3, none⟩ = some (.slice none 0 0))
    (first
      | assumption
      | exact sc_step (by assumption) (by assumption)
      | exact sc_set4 (by assumption) hb1 _ _ _ _)
    (first
      | (go_at_call 33; (with_reducible refine (Norm_nil _).mono ?_); rintro e w5 ⟨rfl, f5⟩; have V := V.fr f5 V.lt List.not_mem_nil; have v0 := V.cell 0; have v1 := V.cell 1; have v2 := V.cell 2; have v3 := V.cell 3; have z0 := V.frozen 0; have z1 := V.frozen 1; have z2 := V.frozen 2; have z3 := V.frozen 3)
      | (go_at_call 34; (with_reducible refine (ckNorm_nil _ _ _).mono ?_); rintro e w5 ⟨⟨A5, c5, rfl⟩, f5⟩; have V := V.fr f5 V.lt List.not_mem_nil; have v0 := V.cell 0; have v1 := V.cell 1; have v2 := V.cell 2; have v3 := V.cell 3; have z0 := V.frozen 0; have z1 := V.frozen 1; have z2 := V.frozen 2; have z3 := V.frozen 3))
  all_goals (
    rename_i hh
    go_wp2
    have V9 := (((V.set 0 (.int .i64 k)).set 1 (.slice A5 0 c5)).set 2 (.slice none 0 0)).set 3 (.slice none 0 0)
    have q0 := V9.cell 0
    have q1 := V9.cell 1
    have q2 := V9.cell 2
    have q3 := V9.cell 3
    refine bodyPost_ret (v := .agg #[.int .i64 k, .slice A5 0 c5, .slice none 0 0, .slice none 0 0]) (by simp [results, Try.results27, go_sem, q0, q1, q2, q3]) rfl ⟨⟨A5, c5, rfl⟩, hh.1⟩)
theorem stateCell_nil (k : Int) (A : Option Addr) (c : Nat) : Calls Try.prog 28 #[.agg #[.int .i64 k, .slice A 0 c, .slice none 0 0, .slice none 0 0]] w fun e w' => e = .returned (.agg #[.int .i64 k, .slice A 0 c, .slice none 0 0, .slice none 0 0]) ∧ Fr w.heap.size [] w w' := by
  have V1 := (Has.new w 78 [.int .i64 k, .slice A 0 c, .slice none 0 0, .slice none 0 0]).alloc (.cells #[.int .i64 0, .slice none 0 0, .slice none 0 0, .slice none 0 0] 37)
  have V := Has.new (w.alloc (.cells #[.int .i64 k, .slice A 0 c, .slice none 0 0, .slice none 0 0] 78)) 37 [.int .i64 0, .slice none 0 0, .slice none 0 0, .slice none 0 0]
  rw [show (w.alloc (.cells #[.int .i64 k, .slice A 0 c, .slice none 0 0, .slice none 0 0] 78)).heap.size = w.heap.size + 1 by simp] at V
  have f1 := ((Fr.refl w.heap.size [] w).alloc (Nat.le_refl _) (.cells #[.int .i64 k, .slice A 0 c, .slice none 0 0, .slice none 0 0] 78)).alloc (by simp) (.cells #[.int .i64 0, .slice none 0 0, .slice none 0 0, .slice none 0 0] 37)
  obtain ⟨x0, x1, x2, x3⟩ := And.intro (V1.cell 0) (And.intro (V1.cell 1) (And.intro (V1.cell 2) (V1.cell 3)))
  have z0 := V.frozen 0
  have z1 := V.frozen 1
  have z2 := V.frozen 2
  have z3 := V.frozen 3
  have v0 := V.cell 0
  have v1 := V.cell 1
  have v2 := V.cell 2
  have v3 := V.cell 3
  go_enter Try.func28, Try.ntmps28
  go_wp2
  have V9 : Has ((w.alloc (.cells #[.int .i64 k, .slice A 0 c, .slice none 0 0, .slice none 0 0] 78)).alloc (.cells #[.int .i64 k, .slice A 0 c, .slice none 0 0, .slice none 0 0] 37)) (w.heap.size + 1) 37 [.int .i64 k, .slice A 0 c, .slice none 0 0, .slice none 0 0] := Has.new' _ _ _ (by simp)
  have q0 := V9.cell 0
  have q1 := V9.cell 1
  have q2 := V9.cell 2
  have q3 := V9.cell 3
  refine bodyPost_ret (v := .agg #[.int .i64 k, .slice A 0 c, .slice none 0 0, .slice none 0 0]) (by simp [results, Try.results28, go_sem, q0, q1, q2, q3]) rfl ⟨rfl, ((Fr.refl w.heap.size [] w).alloc (Nat.le_refl _) _).alloc (by simp) _⟩
end
end Go.Proofs.Ytcemlacfldonlaa
