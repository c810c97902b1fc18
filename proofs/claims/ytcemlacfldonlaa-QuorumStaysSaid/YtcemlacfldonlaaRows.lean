/-
  NARROWER THAN 'FOR EVERY INPUT', by the rows' own cells (each row's printed sentence says how): QuorumStays: loops.
  DERIVED. THE GIVEN ROWS OF THIS SEAT. 2 by the template 'for every input the law returns true; each argument reads behind the call as it read before'; 0 by the template 'total and deterministic' (their statements: YtcemlacfldonlaaTotals.lean).
  GIVEN WITH THE SEED: the statements are not yours to turn. If you find one false, say at which input.
  Laid BY PROGRAM, IN A SANDBOX (cutbox-rows.mjs): the forced cells as the released guide's own fill.sh prints them over the translation c00945e698d01cc8… (all of the seat's roots in one cut). By AI agents, Wed Nov 11 2026. No macro, syntax, notation, axiom, sorry.
-/
import Derived.Test.YtcemlacfldonlaaChecked
import GoSem.Claim
import GoSem.ClaimJoined
import GoSem.ClaimMapViews
import Derived.JoinedTies
import Derived.KernelRfl
namespace Go.Proofs.Ytcemlacfldonlaa
/- THE CELL 'sum', in the pinned program and in every row, IS THE sha256 OF THE DUMP (.gsa) THAT YtcemlacfldonlaaProg.lean LOADS. Nothing in Lean hashes anything: it is a label: what it is worth is what the hold of that sum in a sandbox is worth. -/
noncomputable def Try.pinned : Pinned := { name := "ytcemlacfldonlaa", sum := "c00945e698d01cc85fb93339a75e49818df3cb40383d9791ca9bacc1c2b773be", checked := Try.checked }
namespace Rows
def none {H : Type} : Left H := { results := [], args := [] }

/-- 'murmurationlaw16.QuorumStays': WHATEVER THE INPUT: true; the input reads as it did. -/
def quorumStaysSpec : ChangeSpec := { name := "quorumStays", fn := fun _ => fun
  | [d1, d2, d3] => { results := [.lit (.bool true)], args := [d1, d2, d3] }
  | _ => none }
def quorumStaysRow : OpenClaim := { program := "ytcemlacfldonlaa", sum := "c00945e698d01cc85fb93339a75e49818df3cb40383d9791ca9bacc1c2b773be", func := "murmuration/murmurationlaw16.QuorumStays", spec := "quorumStays", inPlace := ["slices.overlaps[murmuration/api.Dot]"], unfollowed := true, recurses := true, loops := true, apart := false }
def QuorumStaysSaid : Prop := quorumStaysRow.holds Try.pinned (OpenSpec.ofChange quorumStaysSpec)

/-- ITS FALSE NEIGHBOUR: 'it returns false'. Refute it at one input. -/
def quorumStaysWrong : ChangeSpec := { name := "quorumStays", fn := fun _ => fun
  | [d1, d2, d3] => { results := [.lit (.bool false)], args := [d1, d2, d3] }
  | _ => none }
def QuorumStaysWrongFalsely : Prop := quorumStaysRow.holds Try.pinned (OpenSpec.ofChange quorumStaysWrong)

/-- 'murmurationlaw16.QuorumMeets': WHATEVER THE INPUT: true; the input reads as it did. -/
def quorumMeetsSpec : ChangeSpec := { name := "quorumMeets", fn := fun _ => fun
  | [d1, d2, d3] => { results := [.lit (.bool true)], args := [d1, d2, d3] }
  | _ => none }
def quorumMeetsRow : OpenClaim := { program := "ytcemlacfldonlaa", sum := "c00945e698d01cc85fb93339a75e49818df3cb40383d9791ca9bacc1c2b773be", func := "murmuration/murmurationlaw16.QuorumMeets", spec := "quorumMeets", inPlace := ["slices.overlaps[murmuration/api.Dot]"], unfollowed := true, recurses := true, apart := false }
def QuorumMeetsSaid : Prop := quorumMeetsRow.holds Try.pinned (OpenSpec.ofChange quorumMeetsSpec)

/-- ITS FALSE NEIGHBOUR: 'it returns false'. Refute it at one input. -/
def quorumMeetsWrong : ChangeSpec := { name := "quorumMeets", fn := fun _ => fun
  | [d1, d2, d3] => { results := [.lit (.bool false)], args := [d1, d2, d3] }
  | _ => none }
def QuorumMeetsWrongFalsely : Prop := quorumMeetsRow.holds Try.pinned (OpenSpec.ofChange quorumMeetsWrong)

/- THE SECOND FORM. 'bulk': how many values and letters a reading holds, each counted each time it is reached (what is shared counts as often as it is met; a slice's spare places count too). A statement '..UptoSaid' is the law's where the arguments, and the package variables that the reading takes, are together of bulk at most 1048576: NARROWER than '..Said'. Prove '..Said' where nothing that the law and all that it calls make is longer than what came in: it says more and counts as full. Else prove '..UptoSaid'. A law counts once. -/
mutual
def uptoBulk {H : Type} : DataW H → Nat
  | .lit (.string bytes) => bytes.length + 1
  | .lit _ => 1
  | .nil => 1
  | .ptr d => uptoBulk d + 1
  | .slice elems spare => uptoBulkAll elems + uptoBulkAll spare + 1
  | .agg parts => uptoBulkAll parts + 1
  | .iface _ d => uptoBulk d + 1
  | .map entries => uptoBulkEntries entries + 1
  | .held _ => 1
def uptoBulkAll {H : Type} : List (DataW H) → Nat
  | [] => 0
  | d :: r => uptoBulk d + uptoBulkAll r
def uptoBulkEntries {H : Type} : List (Lit × DataW H) → Nat
  | [] => 0
  | x :: r => uptoBulkEntry x + uptoBulkEntries r
def uptoBulkEntry {H : Type} : Lit × DataW H → Nat
  | (.string bytes, d) => bytes.length + uptoBulk d + 1
  | (_, d) => uptoBulk d + 1
 end
def uptoSmall : (H : Type) → List (DataW H) → Bool := fun _ ds => decide (uptoBulkAll ds ≤ 1048576)
def OpenSpec.upto (s : _root_.Go.ChangeSpec) : _root_.Go.OpenSpec := { _root_.Go.OpenSpec.ofChange s with cond := some uptoSmall }

/-- 'murmurationlaw16.QuorumStays', WHERE WHAT IT READS IS OF BULK AT MOST 1048576: true; the input reads as it did. -/
def quorumStaysUptoRow : OpenClaim := { program := "ytcemlacfldonlaa", sum := "c00945e698d01cc85fb93339a75e49818df3cb40383d9791ca9bacc1c2b773be", func := "murmuration/murmurationlaw16.QuorumStays", spec := "quorumStays", inPlace := ["slices.overlaps[murmuration/api.Dot]"], unfollowed := true, recurses := true, loops := true, apart := false, narrowed := true }
def QuorumStaysUptoSaid : Prop := quorumStaysUptoRow.holds Try.pinned (OpenSpec.upto quorumStaysSpec)

/-- 'murmurationlaw16.QuorumMeets', WHERE WHAT IT READS IS OF BULK AT MOST 1048576: true; the input reads as it did. -/
def quorumMeetsUptoRow : OpenClaim := { program := "ytcemlacfldonlaa", sum := "c00945e698d01cc85fb93339a75e49818df3cb40383d9791ca9bacc1c2b773be", func := "murmuration/murmurationlaw16.QuorumMeets", spec := "quorumMeets", inPlace := ["slices.overlaps[murmuration/api.Dot]"], unfollowed := true, recurses := true, apart := false, narrowed := true }
def QuorumMeetsUptoSaid : Prop := quorumMeetsUptoRow.holds Try.pinned (OpenSpec.upto quorumMeetsSpec)

end Rows
end Go.Proofs.Ytcemlacfldonlaa
