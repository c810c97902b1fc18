/- A store that has nothing: Norm, Same, join. -/
import Derived.Test.YtcemlacfldonlaaQuoEm2
namespace Go.Proofs.Ytcemlacfldonlaa
open Go.RowKit
def S0 : Value := .agg #[.slice none 0 0, .slice none 0 0]
section
variable (w : World)
set_option maxHeartbeats 1000000
set_option maxRecDepth 100000
theorem norm_nil : Calls Try.prog 49 #[.agg #[.slice none 0 0, .slice none 0 0], .int .i64 8] w fun e w' => e = .returned (.agg #[.slice none 0 0, .slice none 0 0]) ∧ Fr w.heap.size [] w w' := by
  have hc := fun W => eClone_nil W
  have hd := fun W v => eDel_nil W v
  have hm := fun W a b c => eMerged_nil W a b c
  have hf := fun W a b c => fMerged_nil W a b c
  go_enter Try.func49, Try.ntmps49
  go_wp2_with (first
    | (go_at_call 61; (refine (hf _ _ _ _).mono ?_); rintro e w2 ⟨rfl, rfl⟩)
    | (go_at_call 72; (refine (hm _ _ _ _).mono ?_); rintro e w2 ⟨rfl, rfl⟩)
    | (go_at_call 55; (refine (hd _ _).mono ?_); rintro e w2 ⟨rfl, rfl⟩)
    | (go_at_call 56; (refine (hc _).mono ?_); rintro e w2 ⟨rfl, rfl⟩))
  go_loopw [25] (fun i wr => i = .int .i64 0 ∧ wr = (((w.alloc (.cells #[.slice none 0 0, .slice none 0 0] 35)).alloc (.cells #[.slice none 0 0, .slice none 0 0] 35)).alloc (.cells #[.slice none 0 0, .slice none 0 0] 35))) (fun _ _ => 0)
  case atStart => exact ⟨rfl, rfl⟩
  case round =>
    obtain ⟨rfl, rfl⟩ := hrel
    go_wp2
    have V := (Has.new (w.alloc (.cells #[.slice none 0 0, .slice none 0 0] 35)) 35 [.slice none 0 0, .slice none 0 0]).alloc (.cells #[.slice none 0 0, .slice none 0 0] 35)
    rw [show (w.alloc (.cells #[.slice none 0 0, .slice none 0 0] 35)).heap.size = w.heap.size + 1 by simp] at V
    have e0 := V.cell 0
    have e1 := V.cell 1
    refine bodyPost_ret (v := .agg #[.slice none 0 0, .slice none 0 0]) (by simp [results, Try.results49, go_sem, e0, e1]) rfl ⟨rfl, ((((Fr.refl w.heap.size [] w).alloc (Nat.le_refl _) _).alloc (by simp) _).alloc (by simp; omega) _)⟩
theorem Norm_nil : Calls Try.prog 33 #[.agg #[.slice none 0 0, .slice none 0 0]] w fun e w' => e = .returned (.agg #[.slice none 0 0, .slice none 0 0]) ∧ Fr w.heap.size [] w w' := by
  have hn := fun W => norm_nil W
  have V := Has.new (w.alloc (.cells #[.slice none 0 0, .slice none 0 0] 35)) 35 [.slice none 0 0, .slice none 0 0]
  rw [show (w.alloc (.cells #[.slice none 0 0, .slice none 0 0] 35)).heap.size = w.heap.size + 1 by simp] at V
  have f1 := ((Fr.refl w.heap.size [] w).alloc (Nat.le_refl _) (.cells #[.slice none 0 0, .slice none 0 0] 35)).alloc (by simp) (.cells #[.slice none 0 0, .slice none 0 0] 35)
  go_enter Try.func33, Try.ntmps33
  go_wp2_with (go_at_call 49; (refine (hn _).mono ?_); rintro e w2 ⟨rfl, f2⟩; have V2 := V.fr f2 V.lt (by simp); have e0 := V2.cell 0; have e1 := V2.cell 1; have z0 := V2.frozen 0; have z1 := V2.frozen 1)
  have V3 := (V2.set 0 (.slice none 0 0)).set 1 (.slice none 0 0)
  have q0 := V3.cell 0
  have q1 := V3.cell 1
  have f3 := f1.trans (f2.mono f1.size (by simp))
  refine bodyPost_ret (v := .agg #[.slice none 0 0, .slice none 0 0]) (by simp [results, Try.results33, go_sem, q0, q1]) rfl ⟨rfl, (f3.setCell (p := ⟨w.heap.size + 1, 0, none⟩) (.inr (by simp)) _).setCell (p := ⟨w.heap.size + 1, 1, none⟩) (.inr (by simp)) _⟩
theorem same_nil : Calls Try.prog 32 #[.agg #[.slice none 0 0, .slice none 0 0], .agg #[.slice none 0 0, .slice none 0 0]] w fun e w' => e = .returned (.bool true) ∧ Fr w.heap.size [] w w' := by
  have hE := fun W => eEqual_nil W
  have hF := fun W v => fEqual_nil W v
  have V1 := (Has.new w 35 [.slice none 0 0, .slice none 0 0]).alloc (.cells #[.slice none 0 0, .slice none 0 0] 35)
  have V2 := Has.new (w.alloc (.cells #[.slice none 0 0, .slice none 0 0] 35)) 35 [.slice none 0 0, .slice none 0 0]
  rw [show (w.alloc (.cells #[.slice none 0 0, .slice none 0 0] 35)).heap.size = w.heap.size + 1 by simp] at V2
  have a0 := V1.cell 0
  have a1 := V1.cell 1
  have b0 := V2.cell 0
  have b1 := V2.cell 1
  have f1 := ((Fr.refl w.heap.size [] w).alloc (Nat.le_refl _) (.cells #[.slice none 0 0, .slice none 0 0] 35)).alloc (by simp) (.cells #[.slice none 0 0, .slice none 0 0] 35)
  go_enter Try.func32, Try.ntmps32
  go_wp2_with (first
    | (go_at_call 46; (refine (hF _ _).mono ?_); rintro e w2 ⟨rfl, rfl⟩)
    | (go_at_call 45; (refine (hE _).mono ?_); rintro e w2 ⟨rfl, rfl⟩))
  go_ret
  exact ⟨rfl, f1⟩
end
end Go.Proofs.Ytcemlacfldonlaa
