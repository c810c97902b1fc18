/- Same of two stores that have nothing. -/
import Derived.Test.YtcemlacfldonlaaQuoNorm
namespace Go.Proofs.Ytcemlacfldonlaa
open Go.RowKit
/-- Two boxes with stores that have nothing. -/
structure TwoS (B b1 b2 : Nat) (w W : World) : Prop where
  fr : Fr B [] w W
  one : Has W b1 35 [.slice none 0 0, .slice none 0 0]
  two : Has W b2 35 [.slice none 0 0, .slice none 0 0]
theorem TwoS.step {B b1 b2 : Nat} {w W W' : World} (h : TwoS B b1 b2 w W) (f : Fr W.heap.size [] W W') (hB : B ≤ W.heap.size) : TwoS B b1 b2 w W' :=
  ⟨h.fr.trans (f.mono hB (by simp)), h.one.fr f h.one.lt (by simp), h.two.fr f h.two.lt (by simp)⟩
theorem TwoS.cells {B b1 b2 : Nat} {w W : World} (h : TwoS B b1 b2 w W) : W.cell? ⟨b1, 0, none⟩ = some (.slice none 0 0) ∧ W.cell? ⟨b1, 1, none⟩ = some (.slice none 0 0) ∧ W.cell? ⟨b2, 0, none⟩ = some (.slice none 0 0) ∧ W.cell? ⟨b2, 1, none⟩ = some (.slice none 0 0) :=
  ⟨h.one.cell 0, h.one.cell 1, h.two.cell 0, h.two.cell 1⟩
section
variable (w : World)
set_option maxHeartbeats 1000000
set_option maxRecDepth 100000
theorem Same_nil : Calls Try.prog 26 #[.agg #[.slice none 0 0, .slice none 0 0], .agg #[.slice none 0 0, .slice none 0 0]] w fun e w' => e = .returned (.bool true) ∧ Fr w.heap.size [] w w' := by
  have V1 := (Has.new w 35 [.slice none 0 0, .slice none 0 0]).alloc (.cells #[.slice none 0 0, .slice none 0 0] 35)
  have V2 := Has.new (w.alloc (.cells #[.slice none 0 0, .slice none 0 0] 35)) 35 [.slice none 0 0, .slice none 0 0]
  rw [show (w.alloc (.cells #[.slice none 0 0, .slice none 0 0] 35)).heap.size = w.heap.size + 1 by simp] at V2
  have f1 := ((Fr.refl w.heap.size [] w).alloc (Nat.le_refl _) (.cells #[.slice none 0 0, .slice none 0 0] 35)).alloc (by simp) (.cells #[.slice none 0 0, .slice none 0 0] 35)
  have hrd : ∀ W, TwoS w.heap.size w.heap.size (w.heap.size + 1) w W → _ := fun W hW => hW.cells
  go_enter Try.func26, Try.ntmps26
  go_upto_region 1 with fail
  refine wp_region_class (fun W => TwoS w.heap.size w.heap.size (w.heap.size + 1) w W) (by kernel_rfl) (by kernel_rfl) (⟨f1.drew, V1, V2⟩) ?_
  repeat
    first
      | (refine wpQuiet_skip (by rfl) ?_; try simp only [Act.put, List.setIfInBounds_toArray, List.set_cons_zero, List.set_cons_succ])
      | (refine wpQuiet_take (by rfl) ?_
         apply Exists.intro
         refine ⟨fun W hW => ?_, ?_⟩
         · first
             | ((obtain ⟨q0, q1, q2, q3⟩ := hrd _ hW; go_simp; exact rfl); done)
             | ((obtain ⟨q0, q1, q2, q3⟩ := hrd _ hW; go_simp); done)
             | (go_simp; done)
             | (go_simp; exact rfl)
             | (go_simp; (try refine ⟨rfl, ?_⟩); (go_at_call 33; exact (Norm_nil _).mono fun e w' ⟨he, hf⟩ => ⟨he, hW.step hf hW.fr.size⟩); done)
             | (go_simp; (try refine ⟨rfl, ?_⟩); (go_at_call 32; exact (same_nil _).mono fun e w' ⟨he, hf⟩ => ⟨he, hW.step hf hW.fr.size⟩); done)
         try simp only [Act.put, List.setIfInBounds_toArray, List.set_cons_zero, List.set_cons_succ])
  refine wpQuiet_nil ?_
  intro wq hq
  go_wp2
  go_ret
  exact ⟨rfl, hq.fr⟩
end
end Go.Proofs.Ytcemlacfldonlaa
