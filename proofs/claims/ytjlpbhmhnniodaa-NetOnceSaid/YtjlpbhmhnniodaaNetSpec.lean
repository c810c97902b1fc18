/- Nets: messages, pairs. -/
import Derived.Test.YtjlpbhmhnniodaaMaps
import Derived.DeepKeys5
import Derived.Test.YtjlpbhmhnniodaaProg
import Derived.Test.YtjlpbhmhnniodaaSlices
import Derived.Lib.Hide
import Derived.Outline
namespace Go.Proofs.Ytjlpbhmhnniodaa
open Go.RowKit Go.Maps
namespace Nt
structure Msg where
  n : Int
  src : Int
  dst : Int
  body : ByteArray
def Msg.cells (m : Msg) : List Value := [.int .i64 m.n, .int .i64 m.src, .int .i64 m.dst, .string m.body]
def Msg.val (m : Msg) : Value := .agg #[.int .i64 m.n, .int .i64 m.src, .int .i64 m.dst, .string m.body]
def okI (a : Int) : Prop := -9223372036854775808 ≤ a ∧ a ≤ 9223372036854775807
abbrev Pair := Int × Int
def KP (p : Pair) : Value := .agg #[.int .i64 p.1, .int .i64 p.2]
def VT (_ : Unit) : Value := .bool true
def okP (p : Pair) : Prop := okI p.1 ∧ okI p.2
def ofP (a b : Int) : Pair := (min a b, max a b)
theorem okP_of {a b : Int} (ha : okI a) (hb : okI b) : okP (ofP a b) := by
  unfold okP okI ofP at *
  simp only
  omega
end Nt
open Nt
theorem laidOutN : laidOutB Try.prog = true := by kernel_rfl
theorem pairLaw : WideMaps.KeyLaw Try.prog 51 :=
  deep_law_gate laidOutN (by decide +kernel) (by decide +kernel) (by kernel_rfl) (by kernel_rfl)
theorem wf_i64 (a : Int) (h : okI a) : (Lit.int .i64 a).wf = true := by
  unfold okI at h
  simp only [Lit.wf, Bool.and_eq_true, decide_eq_true_eq]
  constructor <;> first | exact h.1 | exact h.2 | omega
theorem pairEnc : KeyEnc Try.prog 51 KP okP where
  keyed := Keyed.of_law pairLaw
  key := fun p ⟨h1, h2⟩ => by
    have hc : Try.prog.cellsOf 51 = 2 := by kernel_rfl
    have hc3 : Try.prog.cellsOf 3 = 1 := by kernel_rfl
    have hkt : Try.prog.keyType 51 = true := by decide +kernel
    obtain ⟨d, hd⟩ : ∃ d, Try.prog.types.size = d + 1 := ⟨Try.prog.types.size - 1, by decide +kernel⟩
    refine ⟨.string (keyBytes [.int .i64 p.1, .int .i64 p.2]), ?_⟩
    unfold keyOf KP
    rw [Try.underlying51]
    simp only [hkt, Value.formed, Try.underlying51, hc, Value.cells]
    have : Try.prog.keyLits (Try.prog.types.size + 1) 51 [.int .i64 p.1, .int .i64 p.2] = some [.int .i64 p.1, .int .i64 p.2] := by
      rw [hd]
      simp [Program.keyLits, Try.underlying51, Try.underlying3, hc, hc3, List.range_succ, wf_i64 _ h1, wf_i64 _ h2]
    rw [if_pos (show (true && (#[Value.int .i64 p.1, Value.int .i64 p.2] : Array Value).size == 2) = true from rfl), this]
    rfl
  inj := fun a b h => by
    unfold KP at h
    injection h with h
    have h := congrArg Array.toList h
    simp only [List.cons.injEq, Value.int.injEq, true_and, and_true] at h
    exact Prod.ext h.1 h.2
set_option maxHeartbeats 1000000 in
theorem of_any (w : World) (a b : Int) : Calls Try.prog 18 #[.int .i64 a, .int .i64 b] w fun e w' => e = .returned (KP (ofP a b)) ∧ Fr w.heap.size [] w w' := by
  have e0 := fun x y => (Has.new w 51 [.int .i64 x, .int .i64 y]).cell 0
  have e1 := fun x y => (Has.new w 51 [.int .i64 x, .int .i64 y]).cell 1
  go_enter Try.func18, Try.ntmps18
  go_wp2
  all_goals
    refine bodyPost_ret (v := .agg #[.int .i64 (min a b), .int .i64 (max a b)]) (by simp [results, Try.results18, go_sem, e0, e1]; omega) rfl ⟨rfl, (Fr.refl _ _ _).alloc (Nat.le_refl _) _⟩
end Go.Proofs.Ytjlpbhmhnniodaa
