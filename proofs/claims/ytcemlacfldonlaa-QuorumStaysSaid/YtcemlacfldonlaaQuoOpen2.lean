/- What QuorumStays takes: targets, needs, answers. -/
import Derived.Test.YtcemlacfldonlaaQuoStay
import Derived.Test.YtcemlacfldonlaaQuoOpens
namespace Go.Proofs.Ytcemlacfldonlaa
open Go.RowKit Go.ChangeMaps Go.ChangeShapes Go.WideShapes Go.ChangeAt
set_option maxRecDepth 100000
theorem list3_of {α : Type} {l : List α} (h : l.length = 3) : ∃ a b c, l = [a, b, c] := by
  match l, h with
  | [a, b, c], _ => exact ⟨a, b, c, rfl⟩
theorem list4_of {α : Type} {l : List α} (h : l.length = 4) : ∃ a b c d, l = [a, b, c, d] := by
  match l, h with
  | [a, b, c, d], _ => exact ⟨a, b, c, d, rfl⟩
theorem list6_of {α : Type} {l : List α} (h : l.length = 6) : ∃ a b c d e f, l = [a, b, c, d, e, f] := by
  match l, h with
  | [a, b, c, d, e, f], _ => exact ⟨a, b, c, d, e, f, rfl⟩
theorem qc3 : Try.prog.cellsOf 3 = 1 := by kernel_rfl
theorem qcTarget : Try.prog.cellsOf 45 = 2 := by kernel_rfl
theorem qcNeed : Try.prog.cellsOf 24 = 2 := by kernel_rfl
theorem qcOp : Try.prog.cellsOf 39 = 6 := by kernel_rfl
theorem qcCell : Try.prog.cellsOf 37 = 4 := by kernel_rfl
theorem qcStore : Try.prog.cellsOf 35 = 2 := by kernel_rfl
theorem qcClock : Try.prog.cellsOf 31 = 1 := by kernel_rfl
theorem qcE : Try.prog.cellsOf 32 = 1 := by kernel_rfl
theorem qcF : Try.prog.cellsOf 33 = 1 := by kernel_rfl
section
variable {H : Type} {enc : TypeId × Value → H} {W : World}
theorem sl_cell {t e : TypeId} (ht : Try.prog.underlying t = some (.slice e)) (m : Nat) (a : Value) (y : DataW H × List MemPlace) (hy : DataW.trod enc Try.prog W 0 (fun _ => true) true m t [a] = some y) : ∃ A n c, a = .slice A n c := by
  rcases DataW.trod_slice ht hy with ⟨h, _⟩ | ⟨a', n, c, _, _, _, _, h, _⟩
  · simp only [List.cons.injEq, and_true] at h; exact ⟨_, _, _, h⟩
  · simp only [List.cons.injEq, and_true] at h; exact ⟨_, _, _, h⟩
theorem two_each (m : Nat) (a0 a1 : Value) (y0 y1 : DataW H × List MemPlace)
    (h0 : DataW.trod enc Try.prog W 0 (fun _ => true) true m 3 [a0] = some y0) (h1 : DataW.trod enc Try.prog W 0 (fun _ => true) true m 3 [a1] = some y1) : ∃ k l : Int, a0 = .int .i64 k ∧ a1 = .int .i64 l := by
  obtain ⟨k, e0, _, _⟩ := DataW.trod_int Try.underlying3 h0
  obtain ⟨l, e1, _, _⟩ := DataW.trod_int Try.underlying3 h1
  simp only [List.cons.injEq, and_true] at e0 e1
  exact ⟨k, l, e0, e1⟩
theorem target_each (n : Nat) (cs : List Value) (x : DataW H × List MemPlace) (h : DataW.trod enc Try.prog W 0 (fun _ => true) true n 45 cs = some x) : ∃ t : Int × Int, cs = PT t := by
  obtain ⟨xs, m, _, rfl, hl, hlen, hf⟩ := DataW.trod_struct Try.underlying45 h
  rw [qcTarget] at hl
  obtain ⟨a0, a1, rfl⟩ := list2_of hl
  have h0 : DataW.trod enc Try.prog W 0 (fun _ => true) true m 3 ((([a0, a1] : List Value).drop 0).take (Try.prog.cellsOf 3)) = xs[0]? := hf 0 _ rfl
  have h1 : DataW.trod enc Try.prog W 0 (fun _ => true) true m 3 ((([a0, a1] : List Value).drop 1).take (Try.prog.cellsOf 3)) = xs[1]? := hf 1 _ rfl
  rw [qc3] at h0 h1
  simp only [List.drop_zero, List.take_succ_cons, List.take_zero, List.drop_succ_cons] at h0 h1
  obtain ⟨y0, y1, rfl⟩ := list2_of hlen
  obtain ⟨k, e0, _, _⟩ := DataW.trod_int Try.underlying3 h0
  obtain ⟨l, e1, _, _⟩ := DataW.trod_int Try.underlying3 h1
  simp only [List.cons.injEq, and_true] at e0 e1
  subst e0 e1
  exact ⟨(k, l), rfl⟩
theorem need_each (n : Nat) (cs : List Value) (x : DataW H × List MemPlace) (h : DataW.trod enc Try.prog W 0 (fun _ => true) true n 24 cs = some x) : ∃ t : Int × Int, cs = PT t := by
  obtain ⟨xs, m, _, rfl, hl, hlen, hf⟩ := DataW.trod_struct Try.underlying24 h
  rw [qcNeed] at hl
  obtain ⟨a0, a1, rfl⟩ := list2_of hl
  have h0 : DataW.trod enc Try.prog W 0 (fun _ => true) true m 3 ((([a0, a1] : List Value).drop 0).take (Try.prog.cellsOf 3)) = xs[0]? := hf 0 _ rfl
  have h1 : DataW.trod enc Try.prog W 0 (fun _ => true) true m 3 ((([a0, a1] : List Value).drop 1).take (Try.prog.cellsOf 3)) = xs[1]? := hf 1 _ rfl
  rw [qc3] at h0 h1
  simp only [List.drop_zero, List.take_succ_cons, List.take_zero, List.drop_succ_cons] at h0 h1
  obtain ⟨y0, y1, rfl⟩ := list2_of hlen
  obtain ⟨k, e0, _, _⟩ := DataW.trod_int Try.underlying3 h0
  obtain ⟨l, e1, _, _⟩ := DataW.trod_int Try.underlying3 h1
  simp only [List.cons.injEq, and_true] at e0 e1
  subst e0 e1
  exact ⟨(k, l), rfl⟩
theorem store_each (n : Nat) (cs : List Value) (x : DataW H × List MemPlace) (h : DataW.trod enc Try.prog W 0 (fun _ => true) true n 35 cs = some x) : ∃ a1 n1 c1 a2 n2 c2, cs = [.slice a1 n1 c1, .slice a2 n2 c2] := by
  obtain ⟨xs, m, _, rfl, hl, hlen, hf⟩ := DataW.trod_struct Try.underlying35 h
  rw [qcStore] at hl
  obtain ⟨a0, a1, rfl⟩ := list2_of hl
  have h0 : DataW.trod enc Try.prog W 0 (fun _ => true) true m 32 ((([a0, a1] : List Value).drop 0).take (Try.prog.cellsOf 32)) = xs[0]? := hf 0 _ rfl
  have h1 : DataW.trod enc Try.prog W 0 (fun _ => true) true m 33 ((([a0, a1] : List Value).drop 1).take (Try.prog.cellsOf 33)) = xs[1]? := hf 1 _ rfl
  rw [qcE] at h0
  rw [qcF] at h1
  simp only [List.drop_zero, List.take_succ_cons, List.take_zero, List.drop_succ_cons] at h0 h1
  obtain ⟨y0, y1, rfl⟩ := list2_of hlen
  obtain ⟨A, n, c, rfl⟩ := sl_cell Try.underlying32 _ _ _ h0
  obtain ⟨A', n', c', rfl⟩ := sl_cell Try.underlying33 _ _ _ h1
  exact ⟨_, _, _, _, _, _, rfl⟩
theorem cell_each (n : Nat) (cs : List Value) (x : DataW H × List MemPlace) (h : DataW.trod enc Try.prog W 0 (fun _ => true) true n 37 cs = some x) : ∃ k a0 n0 c0 a1 n1 c1 a2 n2 c2, cs = [.int .i64 k, .slice a0 n0 c0, .slice a1 n1 c1, .slice a2 n2 c2] := by
  obtain ⟨xs, m, _, rfl, hl, hlen, hf⟩ := DataW.trod_struct Try.underlying37 h
  rw [qcCell] at hl
  obtain ⟨a0, a1, a2, a3, rfl⟩ := list4_of hl
  have h0 : DataW.trod enc Try.prog W 0 (fun _ => true) true m 3 ((([a0, a1, a2, a3] : List Value).drop 0).take (Try.prog.cellsOf 3)) = xs[0]? := hf 0 _ rfl
  have h1 : DataW.trod enc Try.prog W 0 (fun _ => true) true m 31 ((([a0, a1, a2, a3] : List Value).drop 1).take (Try.prog.cellsOf 31)) = xs[1]? := hf 1 _ rfl
  have h2 : DataW.trod enc Try.prog W 0 (fun _ => true) true m 35 ((([a0, a1, a2, a3] : List Value).drop 2).take (Try.prog.cellsOf 35)) = xs[2]? := hf 2 _ rfl
  rw [qc3] at h0
  rw [qcClock] at h1
  rw [qcStore] at h2
  simp only [List.drop_zero, List.take_succ_cons, List.take_zero, List.drop_succ_cons] at h0 h1 h2
  obtain ⟨y0, y1, y2, rfl⟩ := list3_of hlen
  obtain ⟨k, e0, _, _⟩ := DataW.trod_int Try.underlying3 h0
  simp only [List.cons.injEq, and_true] at e0
  subst e0
  obtain ⟨A, n, c, rfl⟩ := sl_cell Try.underlying31 _ _ _ h1
  obtain ⟨b1, m1, d1, b2, m2, d2, e2⟩ := store_each _ _ _ h2
  simp only [List.cons.injEq, and_true] at e2
  obtain ⟨rfl, rfl⟩ := e2
  exact ⟨_, _, _, _, _, _, _, _, _, _, rfl⟩
theorem op_each (n : Nat) (cs : List Value) (x : DataW H × List MemPlace) (h : DataW.trod enc Try.prog W 0 (fun _ => true) true n 39 cs = some x) : ∃ o : OpC, cs = o.cells := by
  obtain ⟨xs, m, _, rfl, hl, hlen, hf⟩ := DataW.trod_struct Try.underlying39 h
  rw [qcOp] at hl
  obtain ⟨a0, a1, a2, a3, a4, a5, rfl⟩ := list6_of hl
  have h0 : DataW.trod enc Try.prog W 0 (fun _ => true) true m 3 ((([a0, a1, a2, a3, a4, a5] : List Value).drop 0).take (Try.prog.cellsOf 3)) = xs[0]? := hf 0 _ rfl
  have h1 : DataW.trod enc Try.prog W 0 (fun _ => true) true m 3 ((([a0, a1, a2, a3, a4, a5] : List Value).drop 1).take (Try.prog.cellsOf 3)) = xs[1]? := hf 1 _ rfl
  have h2 : DataW.trod enc Try.prog W 0 (fun _ => true) true m 37 ((([a0, a1, a2, a3, a4, a5] : List Value).drop 2).take (Try.prog.cellsOf 37)) = xs[2]? := hf 2 _ rfl
  rw [qc3] at h0 h1
  rw [qcCell] at h2
  simp only [List.drop_zero, List.take_succ_cons, List.take_zero, List.drop_succ_cons] at h0 h1 h2
  obtain ⟨y0, y1, y2, rfl⟩ := list3_of hlen
  obtain ⟨k, e0, _, _⟩ := DataW.trod_int Try.underlying3 h0
  obtain ⟨l, e1, _, _⟩ := DataW.trod_int Try.underlying3 h1
  simp only [List.cons.injEq, and_true] at e0 e1
  subst e0 e1
  obtain ⟨kk, b0, m0, d0, b1, m1, d1, b2, m2, d2, e2⟩ := cell_each _ _ _ h2
  simp only [List.cons.injEq, and_true] at e2
  obtain ⟨rfl, rfl, rfl, rfl⟩ := e2
  exact ⟨⟨k, l, kk, b0, m0, d0, b1, m1, d1, b2, m2, d2⟩, rfl⟩
theorem targets_of {base : Nat} {v : Value} {d : DataW H} {ps : List MemPlace}
    (hv : Value.okWide Try.prog W .any base 22 v) (h : DataW.Trod enc Try.prog W 0 (fun _ => true) true 22 v d ps) :
    ∃ (A : Option Addr) (cap : Nat) (ts : List (Int × Int)), v = .slice A ts.length cap ∧ ARow W W.heap.size A (ts.flatMap PT) ∧ ts.length ≤ cap := by
  obtain ⟨A, cap, ts, h1, h2, h3, -⟩ := slice_of (α := Int × Int) PT (fun _ _ => True) 2 (by decide) Try.underlying22 qcTarget (fun _ => rfl)
    (fun n cs x hx => by obtain ⟨t, ht⟩ := target_each n cs x hx; exact ⟨t, ht, trivial⟩) hv h
  exact ⟨A, cap, ts, h1, h2, h3⟩
theorem ops_of {base : Nat} {v : Value} {d : DataW H} {ps : List MemPlace}
    (hv : Value.okWide Try.prog W .any base 25 v) (h : DataW.Trod enc Try.prog W 0 (fun _ => true) true 25 v d ps) :
    ∃ (A : Option Addr) (cap : Nat) (ts : List OpC), v = .slice A ts.length cap ∧ ARow W W.heap.size A (ts.flatMap OpC.cells) := by
  obtain ⟨A, cap, ts, h1, h2, -⟩ := slice_of (α := OpC) OpC.cells (fun _ _ => True) 6 (by decide) Try.underlying25 qcOp (fun _ => rfl)
    (fun n cs x hx => by obtain ⟨t, ht⟩ := op_each n cs x hx; exact ⟨t, ht, trivial⟩) hv h
  exact ⟨A, cap, ts, h1, h2⟩
theorem need_of {base : Nat} {v : Value} {d : DataW H} {ps : List MemPlace} (hv : Value.okWide Try.prog W .any base 24 v) (h : DataW.Trod enc Try.prog W 0 (fun _ => true) true 24 v d ps) :
    ∃ a b : Int, v = .agg #[.int .i64 a, .int .i64 b] := by
  obtain ⟨cs, rfl, hc⟩ := okWide_struct Try.underlying24 hv
  obtain ⟨fuel, hf⟩ := h
  obtain ⟨x, hx⟩ := need_each _ _ _ hf
  refine ⟨x.1, x.2, ?_⟩
  have : cs.toList = PT x := hx
  rw [show cs = (PT x).toArray by rw [← this]]
  rfl
end
end Go.Proofs.Ytcemlacfldonlaa
