/-
  NARROWER THAN 'FOR EVERY INPUT', by the rows' own cells (each row's printed sentence says how): QuorumPlays: loops.
  DERIVED. THE GIVEN ROWS OF THIS SEAT. 2 by the template 'for every input the law returns true; each argument reads behind the call as it read before'; 0 by the template 'total and deterministic' (their statements: YtcemlacfldonlaaGreatTotals.lean).
  GIVEN WITH THE SEED: the statements are not yours to turn. If you find one false, say at which input.
  Laid BY PROGRAM, IN A SANDBOX (cutbox-rows.mjs): the forced cells as the released guide's own fill.sh prints them over the translation c6fab0a66e324a53… (all of the seat's roots in one cut). By AI agents, Wed Nov 11 2026. No macro, syntax, notation, axiom, sorry.
-/
import Derived.Test.YtcemlacfldonlaaGreatChecked
import GoSem.Claim
import GoSem.ClaimJoined
import GoSem.ClaimMapViews
import Derived.JoinedTies
import Derived.KernelRfl
namespace Go.Proofs.YtcemlacfldonlaaGreat
/- THE CELL 'sum', in the pinned program and in every row, IS THE sha256 OF THE DUMP (.gsa) THAT YtcemlacfldonlaaGreatProg.lean LOADS. Nothing in Lean hashes anything: it is a label: what it is worth is what the hold of that sum in a sandbox is worth. -/
noncomputable def Tryz.pinned : Pinned := { name := "ytcemlacfldonlaagreat", sum := "c6fab0a66e324a533435062064e4dce11125d1f9b7f93628cf9c6b47f7c7948c", checked := Tryz.checked }
namespace Rows
def none {H : Type} : Left H := { results := [], args := [] }

/-- 'murmurationlaw16.QuorumPlays': WHATEVER THE INPUT: true; the input reads as it did. -/
def quorumPlaysSpec : ChangeSpec := { name := "quorumPlays", fn := fun _ => fun
  | [d1, d2, d3] => { results := [.lit (.bool true)], args := [d1, d2, d3] }
  | _ => none }
def quorumPlaysRow : OpenClaim := { program := "ytcemlacfldonlaagreat", sum := "c6fab0a66e324a533435062064e4dce11125d1f9b7f93628cf9c6b47f7c7948c", func := "murmuration/murmurationlaw16.QuorumPlays", spec := "quorumPlays", inPlace := ["slices.overlaps[murmuration/api.Dot]"], unfollowed := true, recurses := true, loops := true, apart := false }
def QuorumPlaysSaid : Prop := quorumPlaysRow.holds Tryz.pinned (OpenSpec.ofChange quorumPlaysSpec)

/-- ITS FALSE NEIGHBOUR: 'it returns false'. Refute it at one input. -/
def quorumPlaysWrong : ChangeSpec := { name := "quorumPlays", fn := fun _ => fun
  | [d1, d2, d3] => { results := [.lit (.bool false)], args := [d1, d2, d3] }
  | _ => none }
def QuorumPlaysWrongFalsely : Prop := quorumPlaysRow.holds Tryz.pinned (OpenSpec.ofChange quorumPlaysWrong)

/-- 'murmurationlaw16.QuorumNil': WHATEVER THE INPUT: true; the input reads as it did. -/
def quorumNilSpec : ChangeSpec := { name := "quorumNil", fn := fun _ => fun
  | [d] => { results := [.lit (.bool true)], args := [d] }
  | _ => none }
def quorumNilRow : OpenClaim := { program := "ytcemlacfldonlaagreat", sum := "c6fab0a66e324a533435062064e4dce11125d1f9b7f93628cf9c6b47f7c7948c", func := "murmuration/murmurationlaw16.QuorumNil", spec := "quorumNil", inPlace := ["slices.overlaps[murmuration/api.Dot]"], unfollowed := true, recurses := true, apart := false }
def QuorumNilSaid : Prop := quorumNilRow.holds Tryz.pinned (OpenSpec.ofChange quorumNilSpec)

/-- ITS FALSE NEIGHBOUR: 'it returns false'. Refute it at one input. -/
def quorumNilWrong : ChangeSpec := { name := "quorumNil", fn := fun _ => fun
  | [d] => { results := [.lit (.bool false)], args := [d] }
  | _ => none }
def QuorumNilWrongFalsely : Prop := quorumNilRow.holds Tryz.pinned (OpenSpec.ofChange quorumNilWrong)

/- THE SECOND FORM. 'bulk': how many values and letters a reading holds, each counted each time it is reached (what is shared counts as often as it is met; a slice's spare places count too). A statement '..UptoSaid' is the law's where the arguments, and the package variables that the reading takes, are together of bulk at most 1048576: NARROWER than '..Said'. Prove '..Said' where nothing that the law and all that it calls make is longer than what came in: it says more and counts as full. Else prove '..UptoSaid'. A law counts once. -/
mutual
def uptoBulk {H : Type} : DataW H → Nat
  | .lit (.string bytes) => bytes.length + 1
  | .lit _ => 1
  | .nil => 1
  | .ptr d => uptoBulk d + 1
  | .slice elems spare => uptoBulkAll elems + uptoBulkAll spare + 1
  | .agg parts => uptoBulkAll parts + 1
  | .iface _ d => uptoBulk d + 1
  | .map entries => uptoBulkEntries entries + 1
  | .held _ => 1
def uptoBulkAll {H : Type} : List (DataW H) → Nat
  | [] => 0
  | d :: r => uptoBulk d + uptoBulkAll r
def uptoBulkEntries {H : Type} : List (Lit × DataW H) → Nat
  | [] => 0
  | x :: r => uptoBulkEntry x + uptoBulkEntries r
def uptoBulkEntry {H : Type} : Lit × DataW H → Nat
  | (.string bytes, d) => bytes.length + uptoBulk d + 1
  | (_, d) => uptoBulk d + 1
 end
def uptoSmall : (H : Type) → List (DataW H) → Bool := fun _ ds => decide (uptoBulkAll ds ≤ 1048576)
def OpenSpec.upto (s : _root_.Go.ChangeSpec) : _root_.Go.OpenSpec := { _root_.Go.OpenSpec.ofChange s with cond := some uptoSmall }

/-- 'murmurationlaw16.QuorumPlays', WHERE WHAT IT READS IS OF BULK AT MOST 1048576: true; the input reads as it did. -/
def quorumPlaysUptoRow : OpenClaim := { program := "ytcemlacfldonlaagreat", sum := "c6fab0a66e324a533435062064e4dce11125d1f9b7f93628cf9c6b47f7c7948c", func := "murmuration/murmurationlaw16.QuorumPlays", spec := "quorumPlays", inPlace := ["slices.overlaps[murmuration/api.Dot]"], unfollowed := true, recurses := true, loops := true, apart := false, narrowed := true }
def QuorumPlaysUptoSaid : Prop := quorumPlaysUptoRow.holds Tryz.pinned (OpenSpec.upto quorumPlaysSpec)

/-- 'murmurationlaw16.QuorumNil', WHERE WHAT IT READS IS OF BULK AT MOST 1048576: true; the input reads as it did. -/
def quorumNilUptoRow : OpenClaim := { program := "ytcemlacfldonlaagreat", sum := "c6fab0a66e324a533435062064e4dce11125d1f9b7f93628cf9c6b47f7c7948c", func := "murmuration/murmurationlaw16.QuorumNil", spec := "quorumNil", inPlace := ["slices.overlaps[murmuration/api.Dot]"], unfollowed := true, recurses := true, apart := false, narrowed := true }
def QuorumNilUptoSaid : Prop := quorumNilUptoRow.holds Tryz.pinned (OpenSpec.upto quorumNilSpec)

end Rows
end Go.Proofs.YtcemlacfldonlaaGreat
