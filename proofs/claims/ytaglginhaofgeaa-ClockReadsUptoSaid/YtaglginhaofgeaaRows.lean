/-
  No cell of these rows narrows 'for every input' (looked for: loops, veiled, ifaces, maps, wideKeys, modest, calm, conditions, laid).
  DERIVED. THE GIVEN ROWS OF THIS SEAT. 7 by the template 'for every input the law returns true; each argument reads behind the call as it read before'; 0 by the template 'total and deterministic' (their statements: YtaglginhaofgeaaTotals.lean).
  GIVEN WITH THE SEED: the statements are not yours to turn. If you find one false, say at which input.
  Laid BY PROGRAM, IN A SANDBOX (cutbox-rows.mjs): the forced cells as the released guide's own fill.sh prints them over the translation 2cf8d8d7a215c82e… (all of the seat's roots in one cut). By AI agents, Wed Nov 11 2026. No macro, syntax, notation, axiom, sorry.
-/
import Derived.Test.YtaglginhaofgeaaChecked
import GoSem.Claim
import GoSem.ClaimJoined
import GoSem.ClaimMapViews
import Derived.JoinedTies
import Derived.KernelRfl
namespace Go.Proofs.Ytaglginhaofgeaa
/- THE CELL 'sum', in the pinned program and in every row, IS THE sha256 OF THE DUMP (.gsa) THAT YtaglginhaofgeaaProg.lean LOADS. Nothing in Lean hashes anything: it is a label: what it is worth is what the hold of that sum in a sandbox is worth. -/
noncomputable def Try.pinned : Pinned := { name := "ytaglginhaofgeaa", sum := "2cf8d8d7a215c82e408047592ebb926cf2bcabbe489a0fb868e6af47f4bc89d3", checked := Try.checked }
namespace Rows
def none {H : Type} : Left H := { results := [], args := [] }

/-- 'murmurationlaw06.ClockMerges': WHATEVER THE INPUT: true; the input reads as it did. -/
def clockMergesSpec : ChangeSpec := { name := "clockMerges", fn := fun _ => fun
  | [d1, d2] => { results := [.lit (.bool true)], args := [d1, d2] }
  | _ => none }
def clockMergesRow : OpenClaim := { program := "ytaglginhaofgeaa", sum := "2cf8d8d7a215c82e408047592ebb926cf2bcabbe489a0fb868e6af47f4bc89d3", func := "murmuration/murmurationlaw06.ClockMerges", spec := "clockMerges", inPlace := ["slices.overlaps[murmuration/api.Dot]", "internal/bytealg.IndexByteString", "internal/abi.NoEscape"], unfollowed := true, recurses := true, apart := false }
def ClockMergesSaid : Prop := clockMergesRow.holds Try.pinned (OpenSpec.ofChange clockMergesSpec)

/-- ITS FALSE NEIGHBOUR: 'it returns false'. Refute it at one input. -/
def clockMergesWrong : ChangeSpec := { name := "clockMerges", fn := fun _ => fun
  | [d1, d2] => { results := [.lit (.bool false)], args := [d1, d2] }
  | _ => none }
def ClockMergesWrongFalsely : Prop := clockMergesRow.holds Try.pinned (OpenSpec.ofChange clockMergesWrong)

/-- 'murmurationlaw06.ClockReads': WHATEVER THE INPUT: true; the input reads as it did. -/
def clockReadsSpec : ChangeSpec := { name := "clockReads", fn := fun _ => fun
  | [d1, d2] => { results := [.lit (.bool true)], args := [d1, d2] }
  | _ => none }
def clockReadsRow : OpenClaim := { program := "ytaglginhaofgeaa", sum := "2cf8d8d7a215c82e408047592ebb926cf2bcabbe489a0fb868e6af47f4bc89d3", func := "murmuration/murmurationlaw06.ClockReads", spec := "clockReads", inPlace := ["slices.overlaps[murmuration/api.Dot]", "internal/bytealg.IndexByteString", "internal/abi.NoEscape"], unfollowed := true, recurses := true, apart := false }
def ClockReadsSaid : Prop := clockReadsRow.holds Try.pinned (OpenSpec.ofChange clockReadsSpec)

/-- ITS FALSE NEIGHBOUR: 'it returns false'. Refute it at one input. -/
def clockReadsWrong : ChangeSpec := { name := "clockReads", fn := fun _ => fun
  | [d1, d2] => { results := [.lit (.bool false)], args := [d1, d2] }
  | _ => none }
def ClockReadsWrongFalsely : Prop := clockReadsRow.holds Try.pinned (OpenSpec.ofChange clockReadsWrong)

/-- 'murmurationlaw06.ClockOrder': WHATEVER THE INPUT: true; the input reads as it did. -/
def clockOrderSpec : ChangeSpec := { name := "clockOrder", fn := fun _ => fun
  | [d1, d2] => { results := [.lit (.bool true)], args := [d1, d2] }
  | _ => none }
def clockOrderRow : OpenClaim := { program := "ytaglginhaofgeaa", sum := "2cf8d8d7a215c82e408047592ebb926cf2bcabbe489a0fb868e6af47f4bc89d3", func := "murmuration/murmurationlaw06.ClockOrder", spec := "clockOrder", inPlace := ["slices.overlaps[murmuration/api.Dot]", "internal/bytealg.IndexByteString", "internal/abi.NoEscape"], unfollowed := true, recurses := true, apart := false }
def ClockOrderSaid : Prop := clockOrderRow.holds Try.pinned (OpenSpec.ofChange clockOrderSpec)

/-- ITS FALSE NEIGHBOUR: 'it returns false'. Refute it at one input. -/
def clockOrderWrong : ChangeSpec := { name := "clockOrder", fn := fun _ => fun
  | [d1, d2] => { results := [.lit (.bool false)], args := [d1, d2] }
  | _ => none }
def ClockOrderWrongFalsely : Prop := clockOrderRow.holds Try.pinned (OpenSpec.ofChange clockOrderWrong)

/-- 'murmurationlaw06.ClockSteps': WHATEVER THE INPUT: true; the input reads as it did. -/
def clockStepsSpec : ChangeSpec := { name := "clockSteps", fn := fun _ => fun
  | [d1, d2, d3] => { results := [.lit (.bool true)], args := [d1, d2, d3] }
  | _ => none }
def clockStepsRow : OpenClaim := { program := "ytaglginhaofgeaa", sum := "2cf8d8d7a215c82e408047592ebb926cf2bcabbe489a0fb868e6af47f4bc89d3", func := "murmuration/murmurationlaw06.ClockSteps", spec := "clockSteps", inPlace := ["slices.overlaps[murmuration/api.Dot]", "internal/bytealg.IndexByteString", "internal/abi.NoEscape"], unfollowed := true, recurses := true, apart := false }
def ClockStepsSaid : Prop := clockStepsRow.holds Try.pinned (OpenSpec.ofChange clockStepsSpec)

/-- ITS FALSE NEIGHBOUR: 'it returns false'. Refute it at one input. -/
def clockStepsWrong : ChangeSpec := { name := "clockSteps", fn := fun _ => fun
  | [d1, d2, d3] => { results := [.lit (.bool false)], args := [d1, d2, d3] }
  | _ => none }
def ClockStepsWrongFalsely : Prop := clockStepsRow.holds Try.pinned (OpenSpec.ofChange clockStepsWrong)

/-- 'murmurationlaw06.ClockAsks': WHATEVER THE INPUT: true; the input reads as it did. -/
def clockAsksSpec : ChangeSpec := { name := "clockAsks", fn := fun _ => fun
  | [d1, d2, d3] => { results := [.lit (.bool true)], args := [d1, d2, d3] }
  | _ => none }
def clockAsksRow : OpenClaim := { program := "ytaglginhaofgeaa", sum := "2cf8d8d7a215c82e408047592ebb926cf2bcabbe489a0fb868e6af47f4bc89d3", func := "murmuration/murmurationlaw06.ClockAsks", spec := "clockAsks", inPlace := ["slices.overlaps[murmuration/api.Dot]", "internal/bytealg.IndexByteString", "internal/abi.NoEscape"], unfollowed := true, recurses := true, apart := false }
def ClockAsksSaid : Prop := clockAsksRow.holds Try.pinned (OpenSpec.ofChange clockAsksSpec)

/-- ITS FALSE NEIGHBOUR: 'it returns false'. Refute it at one input. -/
def clockAsksWrong : ChangeSpec := { name := "clockAsks", fn := fun _ => fun
  | [d1, d2, d3] => { results := [.lit (.bool false)], args := [d1, d2, d3] }
  | _ => none }
def ClockAsksWrongFalsely : Prop := clockAsksRow.holds Try.pinned (OpenSpec.ofChange clockAsksWrong)

/-- 'murmurationlaw06.ClockActors': WHATEVER THE INPUT: true; the input reads as it did. -/
def clockActorsSpec : ChangeSpec := { name := "clockActors", fn := fun _ => fun
  | [d1, d2] => { results := [.lit (.bool true)], args := [d1, d2] }
  | _ => none }
def clockActorsRow : OpenClaim := { program := "ytaglginhaofgeaa", sum := "2cf8d8d7a215c82e408047592ebb926cf2bcabbe489a0fb868e6af47f4bc89d3", func := "murmuration/murmurationlaw06.ClockActors", spec := "clockActors", inPlace := ["slices.overlaps[murmuration/api.Dot]", "internal/bytealg.IndexByteString", "internal/abi.NoEscape"], unfollowed := true, recurses := true, apart := false }
def ClockActorsSaid : Prop := clockActorsRow.holds Try.pinned (OpenSpec.ofChange clockActorsSpec)

/-- ITS FALSE NEIGHBOUR: 'it returns false'. Refute it at one input. -/
def clockActorsWrong : ChangeSpec := { name := "clockActors", fn := fun _ => fun
  | [d1, d2] => { results := [.lit (.bool false)], args := [d1, d2] }
  | _ => none }
def ClockActorsWrongFalsely : Prop := clockActorsRow.holds Try.pinned (OpenSpec.ofChange clockActorsWrong)

/-- 'murmurationlaw06.ClockBytes': WHATEVER THE INPUT: true; the input reads as it did. -/
def clockBytesSpec : ChangeSpec := { name := "clockBytes", fn := fun _ => fun
  | [d1, d2] => { results := [.lit (.bool true)], args := [d1, d2] }
  | _ => none }
def clockBytesRow : OpenClaim := { program := "ytaglginhaofgeaa", sum := "2cf8d8d7a215c82e408047592ebb926cf2bcabbe489a0fb868e6af47f4bc89d3", func := "murmuration/murmurationlaw06.ClockBytes", spec := "clockBytes", inPlace := ["slices.overlaps[murmuration/api.Dot]", "internal/bytealg.IndexByteString", "internal/abi.NoEscape"], unfollowed := true, recurses := true, apart := false }
def ClockBytesSaid : Prop := clockBytesRow.holds Try.pinned (OpenSpec.ofChange clockBytesSpec)

/-- ITS FALSE NEIGHBOUR: 'it returns false'. Refute it at one input. -/
def clockBytesWrong : ChangeSpec := { name := "clockBytes", fn := fun _ => fun
  | [d1, d2] => { results := [.lit (.bool false)], args := [d1, d2] }
  | _ => none }
def ClockBytesWrongFalsely : Prop := clockBytesRow.holds Try.pinned (OpenSpec.ofChange clockBytesWrong)

/- THE SECOND FORM. 'bulk': how many values and letters a reading holds, each counted each time it is reached (what is shared counts as often as it is met; a slice's spare places count too). A statement '..UptoSaid' is the law's where the arguments, and the package variables that the reading takes, are together of bulk at most 1048576: NARROWER than '..Said'. Prove '..Said' where nothing that the law and all that it calls make is longer than what came in: it says more and counts as full. Else prove '..UptoSaid'. A law counts once. -/
mutual
def uptoBulk {H : Type} : DataW H → Nat
  | .lit (.string bytes) => bytes.length + 1
  | .lit _ => 1
  | .nil => 1
  | .ptr d => uptoBulk d + 1
  | .slice elems spare => uptoBulkAll elems + uptoBulkAll spare + 1
  | .agg parts => uptoBulkAll parts + 1
  | .iface _ d => uptoBulk d + 1
  | .map entries => uptoBulkEntries entries + 1
  | .held _ => 1
def uptoBulkAll {H : Type} : List (DataW H) → Nat
  | [] => 0
  | d :: r => uptoBulk d + uptoBulkAll r
def uptoBulkEntries {H : Type} : List (Lit × DataW H) → Nat
  | [] => 0
  | x :: r => uptoBulkEntry x + uptoBulkEntries r
def uptoBulkEntry {H : Type} : Lit × DataW H → Nat
  | (.string bytes, d) => bytes.length + uptoBulk d + 1
  | (_, d) => uptoBulk d + 1
 end
def uptoSmall : (H : Type) → List (DataW H) → Bool := fun _ ds => decide (uptoBulkAll ds ≤ 1048576)
def OpenSpec.upto (s : _root_.Go.ChangeSpec) : _root_.Go.OpenSpec := { _root_.Go.OpenSpec.ofChange s with cond := some uptoSmall }

/-- 'murmurationlaw06.ClockMerges', WHERE WHAT IT READS IS OF BULK AT MOST 1048576: true; the input reads as it did. -/
def clockMergesUptoRow : OpenClaim := { program := "ytaglginhaofgeaa", sum := "2cf8d8d7a215c82e408047592ebb926cf2bcabbe489a0fb868e6af47f4bc89d3", func := "murmuration/murmurationlaw06.ClockMerges", spec := "clockMerges", inPlace := ["slices.overlaps[murmuration/api.Dot]", "internal/bytealg.IndexByteString", "internal/abi.NoEscape"], unfollowed := true, recurses := true, apart := false, narrowed := true }
def ClockMergesUptoSaid : Prop := clockMergesUptoRow.holds Try.pinned (OpenSpec.upto clockMergesSpec)

/-- 'murmurationlaw06.ClockReads', WHERE WHAT IT READS IS OF BULK AT MOST 1048576: true; the input reads as it did. -/
def clockReadsUptoRow : OpenClaim := { program := "ytaglginhaofgeaa", sum := "2cf8d8d7a215c82e408047592ebb926cf2bcabbe489a0fb868e6af47f4bc89d3", func := "murmuration/murmurationlaw06.ClockReads", spec := "clockReads", inPlace := ["slices.overlaps[murmuration/api.Dot]", "internal/bytealg.IndexByteString", "internal/abi.NoEscape"], unfollowed := true, recurses := true, apart := false, narrowed := true }
def ClockReadsUptoSaid : Prop := clockReadsUptoRow.holds Try.pinned (OpenSpec.upto clockReadsSpec)

/-- 'murmurationlaw06.ClockOrder', WHERE WHAT IT READS IS OF BULK AT MOST 1048576: true; the input reads as it did. -/
def clockOrderUptoRow : OpenClaim := { program := "ytaglginhaofgeaa", sum := "2cf8d8d7a215c82e408047592ebb926cf2bcabbe489a0fb868e6af47f4bc89d3", func := "murmuration/murmurationlaw06.ClockOrder", spec := "clockOrder", inPlace := ["slices.overlaps[murmuration/api.Dot]", "internal/bytealg.IndexByteString", "internal/abi.NoEscape"], unfollowed := true, recurses := true, apart := false, narrowed := true }
def ClockOrderUptoSaid : Prop := clockOrderUptoRow.holds Try.pinned (OpenSpec.upto clockOrderSpec)

/-- 'murmurationlaw06.ClockSteps', WHERE WHAT IT READS IS OF BULK AT MOST 1048576: true; the input reads as it did. -/
def clockStepsUptoRow : OpenClaim := { program := "ytaglginhaofgeaa", sum := "2cf8d8d7a215c82e408047592ebb926cf2bcabbe489a0fb868e6af47f4bc89d3", func := "murmuration/murmurationlaw06.ClockSteps", spec := "clockSteps", inPlace := ["slices.overlaps[murmuration/api.Dot]", "internal/bytealg.IndexByteString", "internal/abi.NoEscape"], unfollowed := true, recurses := true, apart := false, narrowed := true }
def ClockStepsUptoSaid : Prop := clockStepsUptoRow.holds Try.pinned (OpenSpec.upto clockStepsSpec)

/-- 'murmurationlaw06.ClockAsks', WHERE WHAT IT READS IS OF BULK AT MOST 1048576: true; the input reads as it did. -/
def clockAsksUptoRow : OpenClaim := { program := "ytaglginhaofgeaa", sum := "2cf8d8d7a215c82e408047592ebb926cf2bcabbe489a0fb868e6af47f4bc89d3", func := "murmuration/murmurationlaw06.ClockAsks", spec := "clockAsks", inPlace := ["slices.overlaps[murmuration/api.Dot]", "internal/bytealg.IndexByteString", "internal/abi.NoEscape"], unfollowed := true, recurses := true, apart := false, narrowed := true }
def ClockAsksUptoSaid : Prop := clockAsksUptoRow.holds Try.pinned (OpenSpec.upto clockAsksSpec)

/-- 'murmurationlaw06.ClockActors', WHERE WHAT IT READS IS OF BULK AT MOST 1048576: true; the input reads as it did. -/
def clockActorsUptoRow : OpenClaim := { program := "ytaglginhaofgeaa", sum := "2cf8d8d7a215c82e408047592ebb926cf2bcabbe489a0fb868e6af47f4bc89d3", func := "murmuration/murmurationlaw06.ClockActors", spec := "clockActors", inPlace := ["slices.overlaps[murmuration/api.Dot]", "internal/bytealg.IndexByteString", "internal/abi.NoEscape"], unfollowed := true, recurses := true, apart := false, narrowed := true }
def ClockActorsUptoSaid : Prop := clockActorsUptoRow.holds Try.pinned (OpenSpec.upto clockActorsSpec)

/-- 'murmurationlaw06.ClockBytes', WHERE WHAT IT READS IS OF BULK AT MOST 1048576: true; the input reads as it did. -/
def clockBytesUptoRow : OpenClaim := { program := "ytaglginhaofgeaa", sum := "2cf8d8d7a215c82e408047592ebb926cf2bcabbe489a0fb868e6af47f4bc89d3", func := "murmuration/murmurationlaw06.ClockBytes", spec := "clockBytes", inPlace := ["slices.overlaps[murmuration/api.Dot]", "internal/bytealg.IndexByteString", "internal/abi.NoEscape"], unfollowed := true, recurses := true, apart := false, narrowed := true }
def ClockBytesUptoSaid : Prop := clockBytesUptoRow.holds Try.pinned (OpenSpec.upto clockBytesSpec)

end Rows
end Go.Proofs.Ytaglginhaofgeaa
