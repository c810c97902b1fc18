/-
  No cell of these rows narrows 'for every input' (looked for: loops, veiled, ifaces, maps, wideKeys, modest, calm, conditions, laid).
  DERIVED. THE GIVEN ROWS OF THIS SEAT. 4 by the template 'for every input the law returns true; each argument reads behind the call as it read before'; 0 by the template 'total and deterministic' (their statements: YtjlpbhmhnniodaaTotals.lean).
  GIVEN WITH THE SEED: the statements are not yours to turn. If you find one false, say at which input.
  Laid BY PROGRAM, IN A SANDBOX (cutbox-rows.mjs): the forced cells as the released guide's own fill.sh prints them over the translation 6b0e1da1785d11d3… (all of the seat's roots in one cut). By AI agents, Wed Nov 11 2026. No macro, syntax, notation, axiom, sorry.
-/
import Derived.Test.YtjlpbhmhnniodaaChecked
import GoSem.Claim
import GoSem.ClaimJoined
import GoSem.ClaimMapViews
import Derived.JoinedTies
import Derived.KernelRfl
namespace Go.Proofs.Ytjlpbhmhnniodaa
/- THE CELL 'sum', in the pinned program and in every row, IS THE sha256 OF THE DUMP (.gsa) THAT YtjlpbhmhnniodaaProg.lean LOADS. Nothing in Lean hashes anything: it is a label: what it is worth is what the hold of that sum in a sandbox is worth. -/
noncomputable def Try.pinned : Pinned := { name := "ytjlpbhmhnniodaa", sum := "6b0e1da1785d11d322a5d4bdcc07651adc9fa32312575cf55ddfae59fac7fdda", checked := Try.checked }
namespace Rows
def none {H : Type} : Left H := { results := [], args := [] }

/-- 'murmurationlaw14.NetOnce': WHATEVER THE INPUT: true; the input reads as it did. -/
def netOnceSpec : ChangeSpec := { name := "netOnce", fn := fun _ => fun
  | [d] => { results := [.lit (.bool true)], args := [d] }
  | _ => none }
def netOnceRow : OpenClaim := { program := "ytjlpbhmhnniodaa", sum := "6b0e1da1785d11d322a5d4bdcc07651adc9fa32312575cf55ddfae59fac7fdda", func := "murmuration/murmurationlaw14.NetOnce", spec := "netOnce", unfollowed := true, recurses := true, plainKeys := false, apart := false }
def NetOnceSaid : Prop := netOnceRow.holds Try.pinned (OpenSpec.ofChange netOnceSpec)

/-- ITS FALSE NEIGHBOUR: 'it returns false'. Refute it at one input. -/
def netOnceWrong : ChangeSpec := { name := "netOnce", fn := fun _ => fun
  | [d] => { results := [.lit (.bool false)], args := [d] }
  | _ => none }
def NetOnceWrongFalsely : Prop := netOnceRow.holds Try.pinned (OpenSpec.ofChange netOnceWrong)

/-- 'murmurationlaw14.NetFull': WHATEVER THE INPUT: true; the input reads as it did. -/
def netFullSpec : ChangeSpec := { name := "netFull", fn := fun _ => fun
  | [d1, d2] => { results := [.lit (.bool true)], args := [d1, d2] }
  | _ => none }
def netFullRow : OpenClaim := { program := "ytjlpbhmhnniodaa", sum := "6b0e1da1785d11d322a5d4bdcc07651adc9fa32312575cf55ddfae59fac7fdda", func := "murmuration/murmurationlaw14.NetFull", spec := "netFull", unfollowed := true, recurses := true, plainKeys := false, apart := false }
def NetFullSaid : Prop := netFullRow.holds Try.pinned (OpenSpec.ofChange netFullSpec)

/-- ITS FALSE NEIGHBOUR: 'it returns false'. Refute it at one input. -/
def netFullWrong : ChangeSpec := { name := "netFull", fn := fun _ => fun
  | [d1, d2] => { results := [.lit (.bool false)], args := [d1, d2] }
  | _ => none }
def NetFullWrongFalsely : Prop := netFullRow.holds Try.pinned (OpenSpec.ofChange netFullWrong)

/-- 'murmurationlaw14.NetNil': WHATEVER THE INPUT: true; the input reads as it did. -/
def netNilSpec : ChangeSpec := { name := "netNil", fn := fun _ => fun
  | [d1, d2] => { results := [.lit (.bool true)], args := [d1, d2] }
  | _ => none }
def netNilRow : OpenClaim := { program := "ytjlpbhmhnniodaa", sum := "6b0e1da1785d11d322a5d4bdcc07651adc9fa32312575cf55ddfae59fac7fdda", func := "murmuration/murmurationlaw14.NetNil", spec := "netNil", unfollowed := true, recurses := true, plainKeys := false, apart := false }
def NetNilSaid : Prop := netNilRow.holds Try.pinned (OpenSpec.ofChange netNilSpec)

/-- ITS FALSE NEIGHBOUR: 'it returns false'. Refute it at one input. -/
def netNilWrong : ChangeSpec := { name := "netNil", fn := fun _ => fun
  | [d1, d2] => { results := [.lit (.bool false)], args := [d1, d2] }
  | _ => none }
def NetNilWrongFalsely : Prop := netNilRow.holds Try.pinned (OpenSpec.ofChange netNilWrong)

/-- 'murmurationlaw14.NetApart': WHATEVER THE INPUT: true; the input reads as it did. -/
def netApartSpec : ChangeSpec := { name := "netApart", fn := fun _ => fun
  | [d1, d2] => { results := [.lit (.bool true)], args := [d1, d2] }
  | _ => none }
def netApartRow : OpenClaim := { program := "ytjlpbhmhnniodaa", sum := "6b0e1da1785d11d322a5d4bdcc07651adc9fa32312575cf55ddfae59fac7fdda", func := "murmuration/murmurationlaw14.NetApart", spec := "netApart", unfollowed := true, recurses := true, plainKeys := false, apart := false }
def NetApartSaid : Prop := netApartRow.holds Try.pinned (OpenSpec.ofChange netApartSpec)

/-- ITS FALSE NEIGHBOUR: 'it returns false'. Refute it at one input. -/
def netApartWrong : ChangeSpec := { name := "netApart", fn := fun _ => fun
  | [d1, d2] => { results := [.lit (.bool false)], args := [d1, d2] }
  | _ => none }
def NetApartWrongFalsely : Prop := netApartRow.holds Try.pinned (OpenSpec.ofChange netApartWrong)

/- THE SECOND FORM. 'bulk': how many values and letters a reading holds, each counted each time it is reached (what is shared counts as often as it is met; a slice's spare places count too). A statement '..UptoSaid' is the law's where the arguments, and the package variables that the reading takes, are together of bulk at most 1048576: NARROWER than '..Said'. Prove '..Said' where nothing that the law and all that it calls make is longer than what came in: it says more and counts as full. Else prove '..UptoSaid'. A law counts once. -/
mutual
def uptoBulk {H : Type} : DataW H → Nat
  | .lit (.string bytes) => bytes.length + 1
  | .lit _ => 1
  | .nil => 1
  | .ptr d => uptoBulk d + 1
  | .slice elems spare => uptoBulkAll elems + uptoBulkAll spare + 1
  | .agg parts => uptoBulkAll parts + 1
  | .iface _ d => uptoBulk d + 1
  | .map entries => uptoBulkEntries entries + 1
  | .held _ => 1
def uptoBulkAll {H : Type} : List (DataW H) → Nat
  | [] => 0
  | d :: r => uptoBulk d + uptoBulkAll r
def uptoBulkEntries {H : Type} : List (Lit × DataW H) → Nat
  | [] => 0
  | x :: r => uptoBulkEntry x + uptoBulkEntries r
def uptoBulkEntry {H : Type} : Lit × DataW H → Nat
  | (.string bytes, d) => bytes.length + uptoBulk d + 1
  | (_, d) => uptoBulk d + 1
 end
def uptoSmall : (H : Type) → List (DataW H) → Bool := fun _ ds => decide (uptoBulkAll ds ≤ 1048576)
def OpenSpec.upto (s : _root_.Go.ChangeSpec) : _root_.Go.OpenSpec := { _root_.Go.OpenSpec.ofChange s with cond := some uptoSmall }

/-- 'murmurationlaw14.NetOnce', WHERE WHAT IT READS IS OF BULK AT MOST 1048576: true; the input reads as it did. -/
def netOnceUptoRow : OpenClaim := { program := "ytjlpbhmhnniodaa", sum := "6b0e1da1785d11d322a5d4bdcc07651adc9fa32312575cf55ddfae59fac7fdda", func := "murmuration/murmurationlaw14.NetOnce", spec := "netOnce", unfollowed := true, recurses := true, plainKeys := false, apart := false, narrowed := true }
def NetOnceUptoSaid : Prop := netOnceUptoRow.holds Try.pinned (OpenSpec.upto netOnceSpec)

/-- 'murmurationlaw14.NetFull', WHERE WHAT IT READS IS OF BULK AT MOST 1048576: true; the input reads as it did. -/
def netFullUptoRow : OpenClaim := { program := "ytjlpbhmhnniodaa", sum := "6b0e1da1785d11d322a5d4bdcc07651adc9fa32312575cf55ddfae59fac7fdda", func := "murmuration/murmurationlaw14.NetFull", spec := "netFull", unfollowed := true, recurses := true, plainKeys := false, apart := false, narrowed := true }
def NetFullUptoSaid : Prop := netFullUptoRow.holds Try.pinned (OpenSpec.upto netFullSpec)

/-- 'murmurationlaw14.NetNil', WHERE WHAT IT READS IS OF BULK AT MOST 1048576: true; the input reads as it did. -/
def netNilUptoRow : OpenClaim := { program := "ytjlpbhmhnniodaa", sum := "6b0e1da1785d11d322a5d4bdcc07651adc9fa32312575cf55ddfae59fac7fdda", func := "murmuration/murmurationlaw14.NetNil", spec := "netNil", unfollowed := true, recurses := true, plainKeys := false, apart := false, narrowed := true }
def NetNilUptoSaid : Prop := netNilUptoRow.holds Try.pinned (OpenSpec.upto netNilSpec)

/-- 'murmurationlaw14.NetApart', WHERE WHAT IT READS IS OF BULK AT MOST 1048576: true; the input reads as it did. -/
def netApartUptoRow : OpenClaim := { program := "ytjlpbhmhnniodaa", sum := "6b0e1da1785d11d322a5d4bdcc07651adc9fa32312575cf55ddfae59fac7fdda", func := "murmuration/murmurationlaw14.NetApart", spec := "netApart", unfollowed := true, recurses := true, plainKeys := false, apart := false, narrowed := true }
def NetApartUptoSaid : Prop := netApartUptoRow.holds Try.pinned (OpenSpec.upto netApartSpec)

end Rows
end Go.Proofs.Ytjlpbhmhnniodaa
