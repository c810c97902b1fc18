/- What the laws' lists hold. -/
import Derived.Test.YtjlpbhmhnniodaaNetAt
import Derived.OpenShut
namespace Go.Proofs.Ytjlpbhmhnniodaa
open Go.RowKit Go.Maps
open Nt
theorem cellsP3 : Try.prog.cellsOf 3 = 1 := by kernel_rfl
theorem cellsPair : Try.prog.cellsOf 49 = 2 := by kernel_rfl
theorem cellsOp : Try.prog.cellsOf 30 = 6 := by kernel_rfl
theorem okI_of {n : Int} (h : (Lit.int .i64 n).wf = true) : okI n := by
  simp only [Lit.wf, Bool.and_eq_true, decide_eq_true_eq] at h
  exact ⟨h.1, h.2⟩
theorem pair_each {H : Type} {enc : TypeId × Value → H} {W : World} (n : Nat) (cs : List Value) (x : DataW H × List MemPlace) (h : DataW.trod enc Try.prog W 0 (fun _ => true) true n 49 cs = some x) :
    ∃ p : Pair, cs = [.int .i64 p.1, .int .i64 p.2] ∧ okP p := by
  obtain ⟨xs, m, _, rfl, hl, hlen, hf⟩ := DataW.trod_array Try.underlying49 h
  rw [cellsPair] at hl
  match cs, hl with
  | [a0, a1], _ =>
    have h0 := hf 0 (by decide)
    have h1 := hf 1 (by decide)
    rw [cellsP3] at h0 h1
    simp only [Nat.zero_mul, Nat.one_mul, List.drop_zero, List.take_succ_cons, List.take_zero, List.drop_succ_cons] at h0 h1
    match xs, hlen with
    | [y0, y1], _ =>
      obtain ⟨k, e0, _, w0⟩ := DataW.trod_int Try.underlying3 h0
      obtain ⟨l, e1, _, w1⟩ := DataW.trod_int Try.underlying3 h1
      simp only [List.cons.injEq, and_true] at e0 e1
      subst e0 e1
      exact ⟨(k, l), rfl, okI_of w0, okI_of w1⟩
def Nt.pcells (p : Pair) : List Value := [.int .i64 p.1, .int .i64 p.2]
theorem pairs_of {H : Type} {enc : TypeId × Value → H} {W : World} {base : Nat} {v : Value} {d : DataW H} {ps : List MemPlace}
    (hv : Value.okWide Try.prog W .any base 48 v) (h : DataW.Trod enc Try.prog W 0 (fun _ => true) true 48 v d ps) :
    ∃ (A : Option Addr) (cap : Nat) (ts : List Pair), v = .slice A ts.length cap ∧ ARow W W.heap.size A (ts.flatMap pcells) ∧ ts.length ≤ cap ∧ (A = none → cap = 0) ∧ (∀ t ∈ ts, okP t) := by
  obtain ⟨A, cap, ts, h1, h2, h3, h4, h5⟩ := slice_of (α := Pair) pcells (fun t _ => okP t) 2 (by decide) Try.underlying48 cellsPair (fun _ => rfl) (fun n cs x hx => pair_each n cs x hx) hv h
  refine ⟨A, cap, ts, h1, h2, h3, h4, ?_⟩
  rcases h5 with ⟨_, rfl⟩ | ⟨ds, sp, _, hl, hq⟩
  · simp
  · intro t ht
    obtain ⟨i, hi, rfl⟩ := List.getElem_of_mem ht
    exact hq i hi (by omega)
structure Nt.OpV where
  kind : Int
  a : Int
  b : Int
  pick : Int
  A1 : Option Addr
  n1 : Nat
  c1 : Nat
  A2 : Option Addr
  n2 : Nat
  c2 : Nat
deriving Inhabited
def Nt.OpV.cells (o : OpV) : List Value := [.int .i64 o.kind, .int .i64 o.a, .int .i64 o.b, .int .i64 o.pick, .slice o.A1 o.n1 o.c1, .slice o.A2 o.n2 o.c2]
def Nt.OpV.ok (o : OpV) : Prop := okI o.kind ∧ okI o.a ∧ okI o.b ∧ okI o.pick
theorem slice_cell {H : Type} {enc : TypeId × Value → H} {W : World} {t e : TypeId} (n : Nat) (cs : List Value) (x : DataW H × List MemPlace) (ht : Try.prog.underlying t = some (.slice e)) (h : DataW.trod enc Try.prog W 0 (fun _ => true) true n t cs = some x) : ∃ A n c, cs = [.slice A n c] := by
  rcases DataW.trod_slice ht h with ⟨h, _⟩ | ⟨a, n, c, _, _, _, _, h, _⟩
  · exact ⟨none, 0, 0, h⟩
  · exact ⟨some a, n, c, h⟩
theorem op_each {H : Type} {enc : TypeId × Value → H} {W : World} (n : Nat) (cs : List Value) (x : DataW H × List MemPlace) (h : DataW.trod enc Try.prog W 0 (fun _ => true) true n 30 cs = some x) :
    ∃ o : OpV, cs = o.cells ∧ o.ok := by
  obtain ⟨xs, m, _, rfl, hl, hlen, hf⟩ := DataW.trod_struct Try.underlying30 h
  rw [cellsOp] at hl
  have cs1 : Try.prog.cellsOf 28 = 1 := by kernel_rfl
  have cs2 : Try.prog.cellsOf 27 = 1 := by kernel_rfl
  match cs, hl with
  | [a0, a1, a2, a3, a4, a5], _ =>
    have h0 : DataW.trod enc Try.prog W 0 (fun _ => true) true m 3 ((([a0, a1, a2, a3, a4, a5] : List Value).drop 0).take (Try.prog.cellsOf 3)) = xs[0]? := hf 0 _ rfl
    have h1 : DataW.trod enc Try.prog W 0 (fun _ => true) true m 3 ((([a0, a1, a2, a3, a4, a5] : List Value).drop 1).take (Try.prog.cellsOf 3)) = xs[1]? := hf 1 _ rfl
    have h2 : DataW.trod enc Try.prog W 0 (fun _ => true) true m 3 ((([a0, a1, a2, a3, a4, a5] : List Value).drop 2).take (Try.prog.cellsOf 3)) = xs[2]? := hf 2 _ rfl
    have h3 : DataW.trod enc Try.prog W 0 (fun _ => true) true m 3 ((([a0, a1, a2, a3, a4, a5] : List Value).drop 3).take (Try.prog.cellsOf 3)) = xs[3]? := hf 3 _ rfl
    have h4 : DataW.trod enc Try.prog W 0 (fun _ => true) true m 28 ((([a0, a1, a2, a3, a4, a5] : List Value).drop 4).take (Try.prog.cellsOf 28)) = xs[4]? := hf 4 _ rfl
    have h5 : DataW.trod enc Try.prog W 0 (fun _ => true) true m 27 ((([a0, a1, a2, a3, a4, a5] : List Value).drop 5).take (Try.prog.cellsOf 27)) = xs[5]? := hf 5 _ rfl
    rw [cellsP3] at h0 h1 h2 h3
    rw [cs1] at h4
    rw [cs2] at h5
    simp only [List.drop_zero, List.take_succ_cons, List.take_zero, List.drop_succ_cons] at h0 h1 h2 h3 h4 h5
    match xs, hlen with
    | [y0, y1, y2, y3, y4, y5], _ =>
      obtain ⟨k, e0, _, w0⟩ := DataW.trod_int Try.underlying3 h0
      obtain ⟨a, e1, _, w1⟩ := DataW.trod_int Try.underlying3 h1
      obtain ⟨b, e2, _, w2⟩ := DataW.trod_int Try.underlying3 h2
      obtain ⟨p, e3, _, w3⟩ := DataW.trod_int Try.underlying3 h3
      obtain ⟨A1, n1, c1, e4⟩ := slice_cell _ _ _ Try.underlying28 h4
      obtain ⟨A2, n2, c2, e5⟩ := slice_cell _ _ _ Try.underlying27 h5
      simp only [List.cons.injEq, and_true] at e0 e1 e2 e3 e4 e5
      subst e0 e1 e2 e3 e4 e5
      exact ⟨⟨k, a, b, p, A1, n1, c1, A2, n2, c2⟩, rfl, okI_of w0, okI_of w1, okI_of w2, okI_of w3⟩
theorem ops_of {H : Type} {enc : TypeId × Value → H} {W : World} {base : Nat} {v : Value} {d : DataW H} {ps : List MemPlace}
    (hv : Value.okWide Try.prog W .any base 22 v) (h : DataW.Trod enc Try.prog W 0 (fun _ => true) true 22 v d ps) :
    ∃ (A : Option Addr) (cap : Nat) (ts : List OpV), v = .slice A ts.length cap ∧ ARow W W.heap.size A (ts.flatMap OpV.cells) ∧ ts.length ≤ cap ∧ (A = none → cap = 0) ∧ (∀ t ∈ ts, t.ok) := by
  obtain ⟨A, cap, ts, h1, h2, h3, h4, h5⟩ := slice_of (α := OpV) OpV.cells (fun t _ => t.ok) 6 (by decide) Try.underlying22 cellsOp (fun _ => rfl) (fun n cs x hx => op_each n cs x hx) hv h
  refine ⟨A, cap, ts, h1, h2, h3, h4, ?_⟩
  rcases h5 with ⟨_, rfl⟩ | ⟨ds, sp, _, hl, hq⟩
  · simp
  · intro t ht
    obtain ⟨i, hi, rfl⟩ := List.getElem_of_mem ht
    exact hq i hi (by omega)
end Go.Proofs.Ytjlpbhmhnniodaa
