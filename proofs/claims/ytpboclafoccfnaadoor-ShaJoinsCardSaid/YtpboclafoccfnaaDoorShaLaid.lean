/- What the rows' list gives the walks: the table of constants; a world for the witness. -/
import Derived.Test.YtpboclafoccfnaaDoorCards
import Derived.Test.YtpboclafoccfnaaDoorTie
import Derived.Test.YtpboclafoccfnaaDoorLaw
import Derived.Test.YtpboclafoccfnaaDoorShaHash
namespace Go.Proofs.YtpboclafoccfnaaDoor
open Go.ChangeShapes Go.WideShapes Go.ChangeAt Go.RowKit
open Sha
theorem own : ownKnob Tryd.prog.godebug = none := by kernel_rfl
theorem laidOut : laidOutB Tryd.prog = true := by kernel_rfl
theorem gK : Tryd.prog.globalNamed "murmuration/sha.constants" = some 0 := by kernel_rfl
theorem gKt : (Tryd.prog.globals[0]?).map (·.type) = some 44 := by kernel_rfl
theorem cells44 : Tryd.prog.cellsOf 44 = 64 := by kernel_rfl
theorem cells29 : Tryd.prog.cellsOf 29 = 1 := by kernel_rfl
theorem kst_of {W : World} (h : laidMetH Tryd.prog Rows.shaSumsRow.laid W) : Kst W := by
  have ht : Lib.TabIs Tryd.prog W "murmuration/sha.constants" .u32 ks := Lib.tabIs_of_head (rest := []) gK gKt Tryd.underlying44 Tryd.underlying29 cells29 cells44 h
  refine ⟨fun j v hv => ?_, ?_⟩
  · have hj : j < ks.length := by
      rcases Nat.lt_or_ge j ks.length with h | h
      · exact h
      · rw [List.getElem?_eq_none (by simpa using h)] at hv; cases hv
    have := ht.cell gK j hj
    rw [Nat.zero_add, this]
    rw [List.getElem?_map, List.getElem?_eq_getElem hj] at hv
    rw [List.getD_eq_getElem?_getD, List.getElem?_eq_getElem hj]
    simpa using hv
  · exact World.block_lt_of_cell? W ⟨0, 0, none⟩ (ht.cell gK 0 (by decide))
noncomputable def laidWorld (os : Os) : World :=
  { World.holding Tryd.prog os ⟨#[], #[], []⟩ with heap := (World.holding Tryd.prog os ⟨#[], #[], []⟩).heap.modify 0 fun
      | .cells _ t frozen => .cells (ks.map (Value.int .u32)).toArray t frozen
      | o => o }
theorem laid_met (os : Os) (args : Array Value) : laidMet Tryd.prog Rows.shaSumsRow.laid ((laidWorld os).forCall (fun _ _ => 0) ⟨#[], args, []⟩).memory :=
  laidMet_of_run' 8 (by kernel_rfl) (by kernel_rfl)
end Go.Proofs.YtpboclafoccfnaaDoor
