/-
  No cell of these rows narrows 'for every input' (looked for: loops, veiled, ifaces, maps, wideKeys, modest, calm, conditions, laid).
  DERIVED. THE GIVEN ROWS OF THIS SEAT. 5 by the template 'for every input the law returns true; each argument reads behind the call as it read before'; 0 by the template 'total and deterministic' (their statements: YtpcbkkccaahdbaaTotals.lean).
  GIVEN WITH THE SEED: the statements are not yours to turn. If you find one false, say at which input.
  Laid BY PROGRAM, IN A SANDBOX (cutbox-rows.mjs): the forced cells as the released guide's own fill.sh prints them over the translation 2240a89262297673… (all of the seat's roots in one cut). By AI agents, Wed Nov 11 2026. No macro, syntax, notation, axiom, sorry.
-/
import Derived.Test.YtpcbkkccaahdbaaChecked
import GoSem.Claim
import GoSem.ClaimJoined
import GoSem.ClaimMapViews
import Derived.JoinedTies
import Derived.KernelRfl
namespace Go.Proofs.Ytpcbkkccaahdbaa
/- THE CELL 'sum', in the pinned program and in every row, IS THE sha256 OF THE DUMP (.gsa) THAT YtpcbkkccaahdbaaProg.lean LOADS. Nothing in Lean hashes anything: it is a label: what it is worth is what the hold of that sum in a sandbox is worth. -/
noncomputable def Try.pinned : Pinned := { name := "ytpcbkkccaahdbaa", sum := "2240a8926229767391ef68d9eba8620547be7a35b955bb1f4a2949c0a0192753", checked := Try.checked }
namespace Rows
def none {H : Type} : Left H := { results := [], args := [] }

/-- 'murmurationlaw02.PackWrites': WHATEVER THE INPUT: true; the input reads as it did. -/
def packWritesSpec : ChangeSpec := { name := "packWrites", fn := fun _ => fun
  | [d1, d2, d3] => { results := [.lit (.bool true)], args := [d1, d2, d3] }
  | _ => none }
def packWritesRow : OpenClaim := { program := "ytpcbkkccaahdbaa", sum := "2240a8926229767391ef68d9eba8620547be7a35b955bb1f4a2949c0a0192753", func := "murmuration/murmurationlaw02.PackWrites", spec := "packWrites", inPlace := ["internal/abi.NoEscape"], unfollowed := true, recurses := true, apart := false }
def PackWritesSaid : Prop := packWritesRow.holds Try.pinned (OpenSpec.ofChange packWritesSpec)

/-- ITS FALSE NEIGHBOUR: 'it returns false'. Refute it at one input. -/
def packWritesWrong : ChangeSpec := { name := "packWrites", fn := fun _ => fun
  | [d1, d2, d3] => { results := [.lit (.bool false)], args := [d1, d2, d3] }
  | _ => none }
def PackWritesWrongFalsely : Prop := packWritesRow.holds Try.pinned (OpenSpec.ofChange packWritesWrong)

/-- 'murmurationlaw02.PackMany': WHATEVER THE INPUT: true; the input reads as it did. -/
def packManySpec : ChangeSpec := { name := "packMany", fn := fun _ => fun
  | [d1, d2] => { results := [.lit (.bool true)], args := [d1, d2] }
  | _ => none }
def packManyRow : OpenClaim := { program := "ytpcbkkccaahdbaa", sum := "2240a8926229767391ef68d9eba8620547be7a35b955bb1f4a2949c0a0192753", func := "murmuration/murmurationlaw02.PackMany", spec := "packMany", inPlace := ["internal/abi.NoEscape"], unfollowed := true, recurses := true, apart := false }
def PackManySaid : Prop := packManyRow.holds Try.pinned (OpenSpec.ofChange packManySpec)

/-- ITS FALSE NEIGHBOUR: 'it returns false'. Refute it at one input. -/
def packManyWrong : ChangeSpec := { name := "packMany", fn := fun _ => fun
  | [d1, d2] => { results := [.lit (.bool false)], args := [d1, d2] }
  | _ => none }
def PackManyWrongFalsely : Prop := packManyRow.holds Try.pinned (OpenSpec.ofChange packManyWrong)

/-- 'murmurationlaw02.PackTurned': WHATEVER THE INPUT: true; the input reads as it did. -/
def packTurnedSpec : ChangeSpec := { name := "packTurned", fn := fun _ => fun
  | [d1, d2, d3] => { results := [.lit (.bool true)], args := [d1, d2, d3] }
  | _ => none }
def packTurnedRow : OpenClaim := { program := "ytpcbkkccaahdbaa", sum := "2240a8926229767391ef68d9eba8620547be7a35b955bb1f4a2949c0a0192753", func := "murmuration/murmurationlaw02.PackTurned", spec := "packTurned", inPlace := ["internal/abi.NoEscape"], unfollowed := true, recurses := true, apart := false }
def PackTurnedSaid : Prop := packTurnedRow.holds Try.pinned (OpenSpec.ofChange packTurnedSpec)

/-- ITS FALSE NEIGHBOUR: 'it returns false'. Refute it at one input. -/
def packTurnedWrong : ChangeSpec := { name := "packTurned", fn := fun _ => fun
  | [d1, d2, d3] => { results := [.lit (.bool false)], args := [d1, d2, d3] }
  | _ => none }
def PackTurnedWrongFalsely : Prop := packTurnedRow.holds Try.pinned (OpenSpec.ofChange packTurnedWrong)

/-- 'murmurationlaw02.PackBack': WHATEVER THE INPUT: true; the input reads as it did. -/
def packBackSpec : ChangeSpec := { name := "packBack", fn := fun _ => fun
  | [d1, d2] => { results := [.lit (.bool true)], args := [d1, d2] }
  | _ => none }
def packBackRow : OpenClaim := { program := "ytpcbkkccaahdbaa", sum := "2240a8926229767391ef68d9eba8620547be7a35b955bb1f4a2949c0a0192753", func := "murmuration/murmurationlaw02.PackBack", spec := "packBack", inPlace := ["internal/abi.NoEscape"], unfollowed := true, recurses := true, apart := false }
def PackBackSaid : Prop := packBackRow.holds Try.pinned (OpenSpec.ofChange packBackSpec)

/-- ITS FALSE NEIGHBOUR: 'it returns false'. Refute it at one input. -/
def packBackWrong : ChangeSpec := { name := "packBack", fn := fun _ => fun
  | [d1, d2] => { results := [.lit (.bool false)], args := [d1, d2] }
  | _ => none }
def PackBackWrongFalsely : Prop := packBackRow.holds Try.pinned (OpenSpec.ofChange packBackWrong)

/-- 'murmurationlaw02.PackOne': WHATEVER THE INPUT: true; the input reads as it did. -/
def packOneSpec : ChangeSpec := { name := "packOne", fn := fun _ => fun
  | [d1, d2] => { results := [.lit (.bool true)], args := [d1, d2] }
  | _ => none }
def packOneRow : OpenClaim := { program := "ytpcbkkccaahdbaa", sum := "2240a8926229767391ef68d9eba8620547be7a35b955bb1f4a2949c0a0192753", func := "murmuration/murmurationlaw02.PackOne", spec := "packOne", inPlace := ["internal/abi.NoEscape"], unfollowed := true, recurses := true, apart := false }
def PackOneSaid : Prop := packOneRow.holds Try.pinned (OpenSpec.ofChange packOneSpec)

/-- ITS FALSE NEIGHBOUR: 'it returns false'. Refute it at one input. -/
def packOneWrong : ChangeSpec := { name := "packOne", fn := fun _ => fun
  | [d1, d2] => { results := [.lit (.bool false)], args := [d1, d2] }
  | _ => none }
def PackOneWrongFalsely : Prop := packOneRow.holds Try.pinned (OpenSpec.ofChange packOneWrong)

/- THE SECOND FORM. 'bulk': how many values and letters a reading holds, each counted each time it is reached (what is shared counts as often as it is met; a slice's spare places count too). A statement '..UptoSaid' is the law's where the arguments, and the package variables that the reading takes, are together of bulk at most 1048576: NARROWER than '..Said'. Prove '..Said' where nothing that the law and all that it calls make is longer than what came in: it says more and counts as full. Else prove '..UptoSaid'. A law counts once. -/
mutual
def uptoBulk {H : Type} : DataW H → Nat
  | .lit (.string bytes) => bytes.length + 1
  | .lit _ => 1
  | .nil => 1
  | .ptr d => uptoBulk d + 1
  | .slice elems spare => uptoBulkAll elems + uptoBulkAll spare + 1
  | .agg parts => uptoBulkAll parts + 1
  | .iface _ d => uptoBulk d + 1
  | .map entries => uptoBulkEntries entries + 1
  | .held _ => 1
def uptoBulkAll {H : Type} : List (DataW H) → Nat
  | [] => 0
  | d :: r => uptoBulk d + uptoBulkAll r
def uptoBulkEntries {H : Type} : List (Lit × DataW H) → Nat
  | [] => 0
  | x :: r => uptoBulkEntry x + uptoBulkEntries r
def uptoBulkEntry {H : Type} : Lit × DataW H → Nat
  | (.string bytes, d) => bytes.length + uptoBulk d + 1
  | (_, d) => uptoBulk d + 1
 end
def uptoSmall : (H : Type) → List (DataW H) → Bool := fun _ ds => decide (uptoBulkAll ds ≤ 1048576)
def OpenSpec.upto (s : _root_.Go.ChangeSpec) : _root_.Go.OpenSpec := { _root_.Go.OpenSpec.ofChange s with cond := some uptoSmall }

/-- 'murmurationlaw02.PackWrites', WHERE WHAT IT READS IS OF BULK AT MOST 1048576: true; the input reads as it did. -/
def packWritesUptoRow : OpenClaim := { program := "ytpcbkkccaahdbaa", sum := "2240a8926229767391ef68d9eba8620547be7a35b955bb1f4a2949c0a0192753", func := "murmuration/murmurationlaw02.PackWrites", spec := "packWrites", inPlace := ["internal/abi.NoEscape"], unfollowed := true, recurses := true, apart := false, narrowed := true }
def PackWritesUptoSaid : Prop := packWritesUptoRow.holds Try.pinned (OpenSpec.upto packWritesSpec)

/-- 'murmurationlaw02.PackMany', WHERE WHAT IT READS IS OF BULK AT MOST 1048576: true; the input reads as it did. -/
def packManyUptoRow : OpenClaim := { program := "ytpcbkkccaahdbaa", sum := "2240a8926229767391ef68d9eba8620547be7a35b955bb1f4a2949c0a0192753", func := "murmuration/murmurationlaw02.PackMany", spec := "packMany", inPlace := ["internal/abi.NoEscape"], unfollowed := true, recurses := true, apart := false, narrowed := true }
def PackManyUptoSaid : Prop := packManyUptoRow.holds Try.pinned (OpenSpec.upto packManySpec)

/-- 'murmurationlaw02.PackTurned', WHERE WHAT IT READS IS OF BULK AT MOST 1048576: true; the input reads as it did. -/
def packTurnedUptoRow : OpenClaim := { program := "ytpcbkkccaahdbaa", sum := "2240a8926229767391ef68d9eba8620547be7a35b955bb1f4a2949c0a0192753", func := "murmuration/murmurationlaw02.PackTurned", spec := "packTurned", inPlace := ["internal/abi.NoEscape"], unfollowed := true, recurses := true, apart := false, narrowed := true }
def PackTurnedUptoSaid : Prop := packTurnedUptoRow.holds Try.pinned (OpenSpec.upto packTurnedSpec)

/-- 'murmurationlaw02.PackBack', WHERE WHAT IT READS IS OF BULK AT MOST 1048576: true; the input reads as it did. -/
def packBackUptoRow : OpenClaim := { program := "ytpcbkkccaahdbaa", sum := "2240a8926229767391ef68d9eba8620547be7a35b955bb1f4a2949c0a0192753", func := "murmuration/murmurationlaw02.PackBack", spec := "packBack", inPlace := ["internal/abi.NoEscape"], unfollowed := true, recurses := true, apart := false, narrowed := true }
def PackBackUptoSaid : Prop := packBackUptoRow.holds Try.pinned (OpenSpec.upto packBackSpec)

/-- 'murmurationlaw02.PackOne', WHERE WHAT IT READS IS OF BULK AT MOST 1048576: true; the input reads as it did. -/
def packOneUptoRow : OpenClaim := { program := "ytpcbkkccaahdbaa", sum := "2240a8926229767391ef68d9eba8620547be7a35b955bb1f4a2949c0a0192753", func := "murmuration/murmurationlaw02.PackOne", spec := "packOne", inPlace := ["internal/abi.NoEscape"], unfollowed := true, recurses := true, apart := false, narrowed := true }
def PackOneUptoSaid : Prop := packOneUptoRow.holds Try.pinned (OpenSpec.upto packOneSpec)

end Rows
end Go.Proofs.Ytpcbkkccaahdbaa
