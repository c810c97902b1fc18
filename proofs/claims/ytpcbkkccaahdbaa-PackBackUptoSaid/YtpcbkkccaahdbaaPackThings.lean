/- Things in memory, opened. -/
import Derived.Test.YtpcbkkccaahdbaaPackInv
import Derived.Test.YtpcbkkccaahdbaaSlices
namespace Go.Proofs.Ytpcbkkccaahdbaa
open Go.ChangeShapes Go.WideShapes Go.ChangeAt Go.RowKit Go.ChangeMaps
open Pk
theorem flatMap_one {α : Type} (f : α → Value) : ∀ ns : List α, (ns.flatMap fun n => [f n]) = ns.map f
  | [] => rfl
  | n :: ns => by rw [List.flatMap_cons, flatMap_one f ns, List.map_cons]; rfl
theorem ARow.row {α : Type} {f : α → Value} {w : World} {N b : Nat} {A : Option Addr} {ns : List α} (h : ARow w N A (ns.flatMap fun n => [f n])) (hb : N ≤ b) : Row w b A (ns.map f) := by
  rw [flatMap_one] at h
  rcases h with h | ⟨blk, o, hA, hbk, hr⟩
  · exact .inl h
  · exact .inr ⟨blk, o, hA, hr, .inl (by omega)⟩
def Pk.Th.cells (t : Th) : List Value := [.int .i64 t.kind, .int .i64 t.least, .int .u64 (t.n : Int), .string t.s]
instance : Inhabited Th := ⟨⟨0, 0, 0, ByteArray.empty⟩⟩
def Pk.Th.data {H : Type} (t : Th) : DataW H := .agg [.lit (.int .i64 t.kind), .lit (.int .i64 t.least), .lit (.int .u64 (t.n : Int)), .lit (.string t.s.data.toList)]
theorem cellsThing : Try.prog.cellsOf 36 = 4 := by kernel_rfl
theorem cells3 : Try.prog.cellsOf 3 = 1 := by kernel_rfl
theorem cellsU : Try.prog.cellsOf 34 = 1 := by kernel_rfl
theorem cells9 : Try.prog.cellsOf 9 = 1 := by kernel_rfl
theorem thing_each {H : Type} {enc : TypeId × Value → H} {W : World} (n : Nat) (cs : List Value) (x : DataW H × List MemPlace) (h : DataW.trod enc Try.prog W 0 (fun _ => true) true n 36 cs = some x) :
    ∃ t : Th, cs = t.cells ∧ t.ok ∧ x.1 = t.data := by
  obtain ⟨xs, m, _, rfl, hl, hlen, hf⟩ := DataW.trod_struct Try.underlying36 h
  rw [cellsThing] at hl
  match cs, hl with
  | [a0, a1, a2, a3], _ =>
    have h0 : DataW.trod enc Try.prog W 0 (fun _ => true) true m 3 ((([a0, a1, a2, a3] : List Value).drop 0).take (Try.prog.cellsOf 3)) = xs[0]? := hf 0 _ rfl
    have h1 : DataW.trod enc Try.prog W 0 (fun _ => true) true m 3 ((([a0, a1, a2, a3] : List Value).drop 1).take (Try.prog.cellsOf 3)) = xs[1]? := hf 1 _ rfl
    have h2 : DataW.trod enc Try.prog W 0 (fun _ => true) true m 34 ((([a0, a1, a2, a3] : List Value).drop 2).take (Try.prog.cellsOf 34)) = xs[2]? := hf 2 _ rfl
    have h3 : DataW.trod enc Try.prog W 0 (fun _ => true) true m 9 ((([a0, a1, a2, a3] : List Value).drop 3).take (Try.prog.cellsOf 9)) = xs[3]? := hf 3 _ rfl
    rw [cells3] at h0 h1
    rw [cellsU] at h2
    rw [cells9] at h3
    simp only [List.drop_zero, List.take_succ_cons, List.take_zero, List.drop_succ_cons] at h0 h1 h2 h3
    match xs, hlen with
    | [y0, y1, y2, y3], _ =>
      obtain ⟨k, e0, d0, w0⟩ := DataW.trod_int Try.underlying3 h0
      obtain ⟨ls, e1, d1, w1⟩ := DataW.trod_int Try.underlying3 h1
      obtain ⟨n, e2, d2, w2⟩ := DataW.trod_int Try.underlying34 h2
      obtain ⟨s, e3, d3, _⟩ := DataW.trod_string Try.underlying9 h3
      have b0 := bounds_i64 w0
      have b1 := bounds_i64 w1
      have b2 := bounds_u64 w2
      obtain ⟨m, rfl⟩ := Int.eq_ofNat_of_zero_le b2.1
      simp only [List.cons.injEq, and_true] at e0 e1 e2 e3
      subst e0 e1 e2 e3
      refine ⟨⟨k, ls, m, s⟩, rfl, ⟨b0, b1, by simp only; omega⟩, ?_⟩
      simp [d0, d1, d2, d3, Th.data]
theorem things_of {H : Type} {enc : TypeId × Value → H} {W : World} {base : Nat} {v : Value} {d : DataW H} {ps : List MemPlace}
    (hv : Value.okWide Try.prog W .any base 22 v) (h : DataW.Trod enc Try.prog W 0 (fun _ => true) true 22 v d ps) :
    ∃ (A : Option Addr) (cap : Nat) (ts : List Th), v = .slice A ts.length cap ∧ ARow W W.heap.size A (ts.flatMap Th.cells) ∧ ts.length ≤ cap ∧ (A = none → cap = 0) ∧ (∀ t ∈ ts, t.ok) ∧
      ((d = .nil ∧ ts = []) ∨ ∃ sp, d = .slice (ts.map Th.data) sp) := by
  obtain ⟨A, cap, ts, h1, h2, h3, h4, h5⟩ := slice_of (α := Th) Th.cells (fun t d => t.ok ∧ d = t.data) 4 (by decide) Try.underlying22 cellsThing (fun _ => rfl) thing_each hv h
  refine ⟨A, cap, ts, h1, h2, h3, h4, ?_, ?_⟩
  · rcases h5 with ⟨_, rfl⟩ | ⟨ds, sp, _, hl, hq⟩
    · simp
    · intro t ht
      obtain ⟨i, hi, rfl⟩ := List.getElem_of_mem ht
      exact (hq i hi (by omega)).1
  · rcases h5 with h5 | ⟨ds, sp, hd, hl, hq⟩
    · exact .inl h5
    · refine .inr ⟨sp, ?_⟩
      rw [hd]
      congr 1
      refine List.ext_getElem (by simpa using hl) (fun i h1 h2 => ?_)
      rw [List.getElem_map]
      exact (hq i (by omega) h1).2
end Go.Proofs.Ytpcbkkccaahdbaa
