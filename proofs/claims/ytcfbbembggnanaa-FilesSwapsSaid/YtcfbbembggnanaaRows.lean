/-
  No cell of these rows narrows 'for every input' (looked for: loops, veiled, ifaces, maps, wideKeys, modest, calm, conditions, laid).
  DERIVED. THE GIVEN ROWS OF THIS SEAT. 6 by the template 'for every input the law returns true; each argument reads behind the call as it read before'; 0 by the template 'total and deterministic' (their statements: YtcfbbembggnanaaTotals.lean).
  GIVEN WITH THE SEED: the statements are not yours to turn. If you find one false, say at which input.
  Laid BY PROGRAM, IN A SANDBOX (cutbox-rows.mjs): the forced cells as the released guide's own fill.sh prints them over the translation 14ab9039f9143889… (all of the seat's roots in one cut). By AI agents, Wed Nov 11 2026. No macro, syntax, notation, axiom, sorry.
-/
import Derived.Test.YtcfbbembggnanaaChecked
import GoSem.Claim
import GoSem.ClaimJoined
import GoSem.ClaimMapViews
import Derived.JoinedTies
import Derived.KernelRfl
namespace Go.Proofs.Ytcfbbembggnanaa
/- THE CELL 'sum', in the pinned program and in every row, IS THE sha256 OF THE DUMP (.gsa) THAT YtcfbbembggnanaaProg.lean LOADS. Nothing in Lean hashes anything: it is a label: what it is worth is what the hold of that sum in a sandbox is worth. -/
noncomputable def Try.pinned : Pinned := { name := "ytcfbbembggnanaa", sum := "14ab9039f914388917294277f47a0e3138f32b9838a980200b4a3f6e4beac668", checked := Try.checked }
namespace Rows
def none {H : Type} : Left H := { results := [], args := [] }

/-- 'murmurationlaw03.FilesFirm': WHATEVER THE INPUT: true; the input reads as it did. -/
def filesFirmSpec : ChangeSpec := { name := "filesFirm", fn := fun _ => fun
  | [d1, d2, d3] => { results := [.lit (.bool true)], args := [d1, d2, d3] }
  | _ => none }
def filesFirmRow : OpenClaim := { program := "ytcfbbembggnanaa", sum := "14ab9039f914388917294277f47a0e3138f32b9838a980200b4a3f6e4beac668", func := "murmuration/murmurationlaw03.FilesFirm", spec := "filesFirm", inPlace := ["internal/bytealg.IndexByteString", "internal/abi.NoEscape", "internal/bytealg.MakeNoZero"], unfollowed := true, recurses := true, apart := false }
def FilesFirmSaid : Prop := filesFirmRow.holds Try.pinned (OpenSpec.ofChange filesFirmSpec)

/-- ITS FALSE NEIGHBOUR: 'it returns false'. Refute it at one input. -/
def filesFirmWrong : ChangeSpec := { name := "filesFirm", fn := fun _ => fun
  | [d1, d2, d3] => { results := [.lit (.bool false)], args := [d1, d2, d3] }
  | _ => none }
def FilesFirmWrongFalsely : Prop := filesFirmRow.holds Try.pinned (OpenSpec.ofChange filesFirmWrong)

/-- 'murmurationlaw03.FilesFull': WHATEVER THE INPUT: true; the input reads as it did. -/
def filesFullSpec : ChangeSpec := { name := "filesFull", fn := fun _ => fun
  | [d1, d2] => { results := [.lit (.bool true)], args := [d1, d2] }
  | _ => none }
def filesFullRow : OpenClaim := { program := "ytcfbbembggnanaa", sum := "14ab9039f914388917294277f47a0e3138f32b9838a980200b4a3f6e4beac668", func := "murmuration/murmurationlaw03.FilesFull", spec := "filesFull", inPlace := ["internal/bytealg.IndexByteString", "internal/abi.NoEscape", "internal/bytealg.MakeNoZero"], unfollowed := true, recurses := true, apart := false }
def FilesFullSaid : Prop := filesFullRow.holds Try.pinned (OpenSpec.ofChange filesFullSpec)

/-- ITS FALSE NEIGHBOUR: 'it returns false'. Refute it at one input. -/
def filesFullWrong : ChangeSpec := { name := "filesFull", fn := fun _ => fun
  | [d1, d2] => { results := [.lit (.bool false)], args := [d1, d2] }
  | _ => none }
def FilesFullWrongFalsely : Prop := filesFullRow.holds Try.pinned (OpenSpec.ofChange filesFullWrong)

/-- 'murmurationlaw03.FilesNames': WHATEVER THE INPUT: true; the input reads as it did. -/
def filesNamesSpec : ChangeSpec := { name := "filesNames", fn := fun _ => fun
  | [d1, d2] => { results := [.lit (.bool true)], args := [d1, d2] }
  | _ => none }
def filesNamesRow : OpenClaim := { program := "ytcfbbembggnanaa", sum := "14ab9039f914388917294277f47a0e3138f32b9838a980200b4a3f6e4beac668", func := "murmuration/murmurationlaw03.FilesNames", spec := "filesNames", inPlace := ["internal/bytealg.IndexByteString", "internal/abi.NoEscape", "internal/bytealg.MakeNoZero"], unfollowed := true, recurses := true, apart := false }
def FilesNamesSaid : Prop := filesNamesRow.holds Try.pinned (OpenSpec.ofChange filesNamesSpec)

/-- ITS FALSE NEIGHBOUR: 'it returns false'. Refute it at one input. -/
def filesNamesWrong : ChangeSpec := { name := "filesNames", fn := fun _ => fun
  | [d1, d2] => { results := [.lit (.bool false)], args := [d1, d2] }
  | _ => none }
def FilesNamesWrongFalsely : Prop := filesNamesRow.holds Try.pinned (OpenSpec.ofChange filesNamesWrong)

/-- 'murmurationlaw03.FilesTwice': WHATEVER THE INPUT: true; the input reads as it did. -/
def filesTwiceSpec : ChangeSpec := { name := "filesTwice", fn := fun _ => fun
  | [d1, d2] => { results := [.lit (.bool true)], args := [d1, d2] }
  | _ => none }
def filesTwiceRow : OpenClaim := { program := "ytcfbbembggnanaa", sum := "14ab9039f914388917294277f47a0e3138f32b9838a980200b4a3f6e4beac668", func := "murmuration/murmurationlaw03.FilesTwice", spec := "filesTwice", inPlace := ["internal/bytealg.IndexByteString", "internal/abi.NoEscape", "internal/bytealg.MakeNoZero"], unfollowed := true, recurses := true, apart := false }
def FilesTwiceSaid : Prop := filesTwiceRow.holds Try.pinned (OpenSpec.ofChange filesTwiceSpec)

/-- ITS FALSE NEIGHBOUR: 'it returns false'. Refute it at one input. -/
def filesTwiceWrong : ChangeSpec := { name := "filesTwice", fn := fun _ => fun
  | [d1, d2] => { results := [.lit (.bool false)], args := [d1, d2] }
  | _ => none }
def FilesTwiceWrongFalsely : Prop := filesTwiceRow.holds Try.pinned (OpenSpec.ofChange filesTwiceWrong)

/-- 'murmurationlaw03.FilesSwaps': WHATEVER THE INPUT: true; the input reads as it did. -/
def filesSwapsSpec : ChangeSpec := { name := "filesSwaps", fn := fun _ => fun
  | [d1, d2, d3] => { results := [.lit (.bool true)], args := [d1, d2, d3] }
  | _ => none }
def filesSwapsRow : OpenClaim := { program := "ytcfbbembggnanaa", sum := "14ab9039f914388917294277f47a0e3138f32b9838a980200b4a3f6e4beac668", func := "murmuration/murmurationlaw03.FilesSwaps", spec := "filesSwaps", inPlace := ["internal/bytealg.IndexByteString", "internal/abi.NoEscape", "internal/bytealg.MakeNoZero"], unfollowed := true, recurses := true, apart := false }
def FilesSwapsSaid : Prop := filesSwapsRow.holds Try.pinned (OpenSpec.ofChange filesSwapsSpec)

/-- ITS FALSE NEIGHBOUR: 'it returns false'. Refute it at one input. -/
def filesSwapsWrong : ChangeSpec := { name := "filesSwaps", fn := fun _ => fun
  | [d1, d2, d3] => { results := [.lit (.bool false)], args := [d1, d2, d3] }
  | _ => none }
def FilesSwapsWrongFalsely : Prop := filesSwapsRow.holds Try.pinned (OpenSpec.ofChange filesSwapsWrong)

/-- 'murmurationlaw03.FilesNil': WHATEVER THE INPUT: true; the input reads as it did. -/
def filesNilSpec : ChangeSpec := { name := "filesNil", fn := fun _ => fun
  | [d1, d2] => { results := [.lit (.bool true)], args := [d1, d2] }
  | _ => none }
def filesNilRow : OpenClaim := { program := "ytcfbbembggnanaa", sum := "14ab9039f914388917294277f47a0e3138f32b9838a980200b4a3f6e4beac668", func := "murmuration/murmurationlaw03.FilesNil", spec := "filesNil", inPlace := ["internal/bytealg.IndexByteString", "internal/abi.NoEscape", "internal/bytealg.MakeNoZero"], unfollowed := true, recurses := true, apart := false }
def FilesNilSaid : Prop := filesNilRow.holds Try.pinned (OpenSpec.ofChange filesNilSpec)

/-- ITS FALSE NEIGHBOUR: 'it returns false'. Refute it at one input. -/
def filesNilWrong : ChangeSpec := { name := "filesNil", fn := fun _ => fun
  | [d1, d2] => { results := [.lit (.bool false)], args := [d1, d2] }
  | _ => none }
def FilesNilWrongFalsely : Prop := filesNilRow.holds Try.pinned (OpenSpec.ofChange filesNilWrong)

/- THE SECOND FORM. 'bulk': how many values and letters a reading holds, each counted each time it is reached (what is shared counts as often as it is met; a slice's spare places count too). A statement '..UptoSaid' is the law's where the arguments, and the package variables that the reading takes, are together of bulk at most 1048576: NARROWER than '..Said'. Prove '..Said' where nothing that the law and all that it calls make is longer than what came in: it says more and counts as full. Else prove '..UptoSaid'. A law counts once. -/
mutual
def uptoBulk {H : Type} : DataW H → Nat
  | .lit (.string bytes) => bytes.length + 1
  | .lit _ => 1
  | .nil => 1
  | .ptr d => uptoBulk d + 1
  | .slice elems spare => uptoBulkAll elems + uptoBulkAll spare + 1
  | .agg parts => uptoBulkAll parts + 1
  | .iface _ d => uptoBulk d + 1
  | .map entries => uptoBulkEntries entries + 1
  | .held _ => 1
def uptoBulkAll {H : Type} : List (DataW H) → Nat
  | [] => 0
  | d :: r => uptoBulk d + uptoBulkAll r
def uptoBulkEntries {H : Type} : List (Lit × DataW H) → Nat
  | [] => 0
  | x :: r => uptoBulkEntry x + uptoBulkEntries r
def uptoBulkEntry {H : Type} : Lit × DataW H → Nat
  | (.string bytes, d) => bytes.length + uptoBulk d + 1
  | (_, d) => uptoBulk d + 1
 end
def uptoSmall : (H : Type) → List (DataW H) → Bool := fun _ ds => decide (uptoBulkAll ds ≤ 1048576)
def OpenSpec.upto (s : _root_.Go.ChangeSpec) : _root_.Go.OpenSpec := { _root_.Go.OpenSpec.ofChange s with cond := some uptoSmall }

/-- 'murmurationlaw03.FilesFirm', WHERE WHAT IT READS IS OF BULK AT MOST 1048576: true; the input reads as it did. -/
def filesFirmUptoRow : OpenClaim := { program := "ytcfbbembggnanaa", sum := "14ab9039f914388917294277f47a0e3138f32b9838a980200b4a3f6e4beac668", func := "murmuration/murmurationlaw03.FilesFirm", spec := "filesFirm", inPlace := ["internal/bytealg.IndexByteString", "internal/abi.NoEscape", "internal/bytealg.MakeNoZero"], unfollowed := true, recurses := true, apart := false, narrowed := true }
def FilesFirmUptoSaid : Prop := filesFirmUptoRow.holds Try.pinned (OpenSpec.upto filesFirmSpec)

/-- 'murmurationlaw03.FilesFull', WHERE WHAT IT READS IS OF BULK AT MOST 1048576: true; the input reads as it did. -/
def filesFullUptoRow : OpenClaim := { program := "ytcfbbembggnanaa", sum := "14ab9039f914388917294277f47a0e3138f32b9838a980200b4a3f6e4beac668", func := "murmuration/murmurationlaw03.FilesFull", spec := "filesFull", inPlace := ["internal/bytealg.IndexByteString", "internal/abi.NoEscape", "internal/bytealg.MakeNoZero"], unfollowed := true, recurses := true, apart := false, narrowed := true }
def FilesFullUptoSaid : Prop := filesFullUptoRow.holds Try.pinned (OpenSpec.upto filesFullSpec)

/-- 'murmurationlaw03.FilesNames', WHERE WHAT IT READS IS OF BULK AT MOST 1048576: true; the input reads as it did. -/
def filesNamesUptoRow : OpenClaim := { program := "ytcfbbembggnanaa", sum := "14ab9039f914388917294277f47a0e3138f32b9838a980200b4a3f6e4beac668", func := "murmuration/murmurationlaw03.FilesNames", spec := "filesNames", inPlace := ["internal/bytealg.IndexByteString", "internal/abi.NoEscape", "internal/bytealg.MakeNoZero"], unfollowed := true, recurses := true, apart := false, narrowed := true }
def FilesNamesUptoSaid : Prop := filesNamesUptoRow.holds Try.pinned (OpenSpec.upto filesNamesSpec)

/-- 'murmurationlaw03.FilesTwice', WHERE WHAT IT READS IS OF BULK AT MOST 1048576: true; the input reads as it did. -/
def filesTwiceUptoRow : OpenClaim := { program := "ytcfbbembggnanaa", sum := "14ab9039f914388917294277f47a0e3138f32b9838a980200b4a3f6e4beac668", func := "murmuration/murmurationlaw03.FilesTwice", spec := "filesTwice", inPlace := ["internal/bytealg.IndexByteString", "internal/abi.NoEscape", "internal/bytealg.MakeNoZero"], unfollowed := true, recurses := true, apart := false, narrowed := true }
def FilesTwiceUptoSaid : Prop := filesTwiceUptoRow.holds Try.pinned (OpenSpec.upto filesTwiceSpec)

/-- 'murmurationlaw03.FilesSwaps', WHERE WHAT IT READS IS OF BULK AT MOST 1048576: true; the input reads as it did. -/
def filesSwapsUptoRow : OpenClaim := { program := "ytcfbbembggnanaa", sum := "14ab9039f914388917294277f47a0e3138f32b9838a980200b4a3f6e4beac668", func := "murmuration/murmurationlaw03.FilesSwaps", spec := "filesSwaps", inPlace := ["internal/bytealg.IndexByteString", "internal/abi.NoEscape", "internal/bytealg.MakeNoZero"], unfollowed := true, recurses := true, apart := false, narrowed := true }
def FilesSwapsUptoSaid : Prop := filesSwapsUptoRow.holds Try.pinned (OpenSpec.upto filesSwapsSpec)

/-- 'murmurationlaw03.FilesNil', WHERE WHAT IT READS IS OF BULK AT MOST 1048576: true; the input reads as it did. -/
def filesNilUptoRow : OpenClaim := { program := "ytcfbbembggnanaa", sum := "14ab9039f914388917294277f47a0e3138f32b9838a980200b4a3f6e4beac668", func := "murmuration/murmurationlaw03.FilesNil", spec := "filesNil", inPlace := ["internal/bytealg.IndexByteString", "internal/abi.NoEscape", "internal/bytealg.MakeNoZero"], unfollowed := true, recurses := true, apart := false, narrowed := true }
def FilesNilUptoSaid : Prop := filesNilUptoRow.holds Try.pinned (OpenSpec.upto filesNilSpec)

end Rows
end Go.Proofs.Ytcfbbembggnanaa
