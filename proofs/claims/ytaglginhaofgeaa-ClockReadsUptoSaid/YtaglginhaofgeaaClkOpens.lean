/- What the clock's laws take: clocks, dots, three of each. -/
import Derived.Test.YtaglginhaofgeaaClkNorm
import Derived.Test.YtaglginhaofgeaaOpen
import Derived.OpenShut
-- cut
namespace Go.Proofs.Ytaglginhaofgeaa
open Go.RowKit Go.ChangeMaps Go.ChangeShapes Go.WideShapes Go.ChangeAt
open Ck
theorem okWide_array {P : Program} {w : World} {base : Nat} {t : TypeId} {v : Value} {n : Nat} {e : TypeId} (ht : P.underlying t = some (.array n e)) (h : Value.okWide P w .any base t v) : ∃ cs, v = .agg cs ∧ cs.size = P.cellsOf t := by
  simp only [Value.okWide, ht] at h
  obtain ⟨cs, h1, h2, _⟩ := h
  exact ⟨cs, h1, h2⟩
theorem cellsU64 : Try.prog.cellsOf 25 = 1 := by kernel_rfl
theorem cellsDot : Try.prog.cellsOf 27 = 2 := by kernel_rfl
theorem bytesDot : Try.prog.bytesOf 27 = 16 := by kernel_rfl
theorem cellsClock : Try.prog.cellsOf 23 = 1 := by kernel_rfl
theorem natU64 {n : Int} (h : (Lit.int .u64 n).wf = true) : ∃ m : Nat, n = m ∧ m < 18446744073709551616 := by
  obtain ⟨h0, h1⟩ := bounds_u64 h
  exact ⟨n.toNat, by omega, by omega⟩
/-- How many elements a slice reads as. -/
def Ck.lenD {H : Type} : DataW H → Nat
  | .slice e _ => e.length
  | _ => 0
theorem list2_of {α : Type} {l : List α} (h : l.length = 2) : ∃ a b, l = [a, b] := by
  match l, h with
  | [a, b], _ => exact ⟨a, b, rfl⟩
theorem list3_of {α : Type} {l : List α} (h : l.length = 3) : ∃ a b c, l = [a, b, c] := by
  match l, h with
  | [a, b, c], _ => exact ⟨a, b, c, rfl⟩
section
variable {H : Type} {enc : TypeId × Value → H} {W : World}
theorem dot_each (n : Nat) (cs : List Value) (x : DataW H × List MemPlace) (h : DataW.trod enc Try.prog W 0 (fun _ => true) true n 27 cs = some x) : ∃ d : Dot, cs = d.cells ∧ d.ok := by
  obtain ⟨xs, m, _, rfl, hl, hlen, hf⟩ := DataW.trod_struct Try.underlying27 h
  rw [cellsDot] at hl
  obtain ⟨a0, a1, rfl⟩ := list2_of hl
  · have h0 : DataW.trod enc Try.prog W 0 (fun _ => true) true m 25 ((([a0, a1] : List Value).drop 0).take (Try.prog.cellsOf 25)) = xs[0]? := hf 0 _ rfl
    have h1 : DataW.trod enc Try.prog W 0 (fun _ => true) true m 25 ((([a0, a1] : List Value).drop 1).take (Try.prog.cellsOf 25)) = xs[1]? := hf 1 _ rfl
    rw [cellsU64] at h0 h1
    simp only [List.drop_zero, List.take_succ_cons, List.take_zero, List.drop_succ_cons] at h0 h1
    obtain ⟨y0, y1, rfl⟩ := list2_of hlen
    · obtain ⟨k, e0, _, w0⟩ := DataW.trod_int Try.underlying25 h0
      obtain ⟨l, e1, _, w1⟩ := DataW.trod_int Try.underlying25 h1
      simp only [List.cons.injEq, and_true] at e0 e1
      subst e0 e1
      obtain ⟨k, rfl, hk⟩ := natU64 w0
      obtain ⟨l, rfl, hl2⟩ := natU64 w1
      exact ⟨⟨k, l⟩, rfl, hk, hl2⟩
theorem clk_of2 {v : Value} {d : DataW H} {ps : List MemPlace} (hv : ∃ A n c, v = .slice A n c) (h : DataW.Trod enc Try.prog W 0 (fun _ => true) true 23 v d ps)
    (hw : (d.weights Try.prog 23).all (· ≤ reachBytes) = true) : ∃ ds : List Dot, ClkIn W v ds ∧ (∀ d ∈ ds, d.ok) ∧ ds.length ≤ 8796093022000 ∧ ds.length ≤ lenD d := by
  obtain ⟨A, cap, ts, h1, h2, h3, h4, h5⟩ := slice_of2 (α := Dot) Dot.cells (fun t _ => t.ok) 2 (by decide) Try.underlying23 cellsDot (fun _ => rfl) (fun n cs x hx => dot_each n cs x hx) hv h
  refine ⟨ts, ⟨A, cap, h1, h2⟩, ?_, ?_, ?_⟩
  · rcases h5 with ⟨_, rfl⟩ | ⟨ds, sp, _, hl, hq⟩
    · simp
    · intro t ht
      obtain ⟨i, hi, rfl⟩ := List.getElem_of_mem ht
      exact hq i hi (by omega)
  · rcases h5 with ⟨_, rfl⟩ | ⟨ds, sp, rfl, hl, hq⟩
    · simp
    · have := weights_len Try.underlying23 hw
      rw [bytesDot] at this
      omega
  · rcases h5 with ⟨_, rfl⟩ | ⟨ds, sp, rfl, hl, hq⟩
    · simp
    · exact Nat.le_of_eq hl.symm
theorem clk_of {base : Nat} {v : Value} {d : DataW H} {ps : List MemPlace} (hv : Value.okWide Try.prog W .any base 23 v) (h : DataW.Trod enc Try.prog W 0 (fun _ => true) true 23 v d ps)
    (hw : (d.weights Try.prog 23).all (· ≤ reachBytes) = true) : ∃ ds : List Dot, ClkIn W v ds ∧ (∀ d ∈ ds, d.ok) ∧ ds.length ≤ 8796093022000 ∧ ds.length ≤ lenD d :=
  clk_of2 (okWide_slice Try.underlying23 hv) h hw
theorem dot_of {base : Nat} {v : Value} {d : DataW H} {ps : List MemPlace} (hv : Value.okWide Try.prog W .any base 27 v) (h : DataW.Trod enc Try.prog W 0 (fun _ => true) true 27 v d ps) :
    ∃ x : Dot, v = .agg #[.int .u64 (x.a : Int), .int .u64 (x.n : Int)] ∧ x.ok := by
  obtain ⟨cs, rfl, hc⟩ := okWide_struct Try.underlying27 hv
  obtain ⟨fuel, hf⟩ := h
  obtain ⟨x, hx, ok⟩ := dot_each _ _ _ hf
  refine ⟨x, ?_, ok⟩
  have : cs.toList = x.cells := hx
  rw [show cs = x.cells.toArray by rw [← this]]
  rfl
theorem ints3_of {base : Nat} {v : Value} {d : DataW H} {ps : List MemPlace} (hv : Value.okWide Try.prog W .any base 47 v) (h : DataW.Trod enc Try.prog W 0 (fun _ => true) true 47 v d ps) :
    ∃ a b c : Int, v = .agg #[.int .i64 a, .int .i64 b, .int .i64 c] := by
  obtain ⟨cs, rfl, hc⟩ := okWide_array Try.underlying47 hv
  obtain ⟨fuel, hf⟩ := h
  have hf : DataW.trod enc Try.prog W 0 (fun _ => true) true fuel 47 cs.toList = some (d, ps) := hf
  obtain ⟨xs, m, _, _, hl, hlen, hf⟩ := DataW.trod_array Try.underlying47 hf
  have c3 : Try.prog.cellsOf 47 = 3 := by kernel_rfl
  have c1 : Try.prog.cellsOf 3 = 1 := by kernel_rfl
  rw [c3] at hl
  obtain ⟨cs⟩ := cs
  obtain ⟨a0, a1, a2, rfl⟩ := list3_of hl
  · have h0 := hf 0 (by decide)
    have h1 := hf 1 (by decide)
    have h2 := hf 2 (by decide)
    rw [c1] at h0 h1 h2
    simp only [List.drop_zero, List.take_succ_cons, List.take_zero, List.drop_succ_cons, Nat.mul_one] at h0 h1 h2
    obtain ⟨y0, y1, y2, rfl⟩ := list3_of hlen
    · obtain ⟨k, e0, _, _⟩ := DataW.trod_int Try.underlying3 h0
      obtain ⟨l, e1, _, _⟩ := DataW.trod_int Try.underlying3 h1
      obtain ⟨m, e2, _, _⟩ := DataW.trod_int Try.underlying3 h2
      simp only [List.cons.injEq, and_true] at e0 e1 e2
      subst e0 e1 e2
      exact ⟨_, _, _, rfl⟩
theorem clk_cell (m : Nat) (a : Value) (y : DataW H × List MemPlace) (hy : DataW.trod enc Try.prog W 0 (fun _ => true) true m 23 [a] = some y) : (∃ A n c, a = .slice A n c) ∧ DataW.Trod enc Try.prog W 0 (fun _ => true) true 23 a y.1 y.2 := by
  have h1 : ∃ A n c, a = .slice A n c := by
    rcases DataW.trod_slice Try.underlying23 hy with ⟨h, _⟩ | ⟨a', n, c, _, _, _, _, h, _⟩
    · simp only [List.cons.injEq, and_true] at h; exact ⟨_, _, _, h⟩
    · simp only [List.cons.injEq, and_true] at h; exact ⟨_, _, _, h⟩
  obtain ⟨A, n, c, rfl⟩ := h1
  exact ⟨⟨A, n, c, rfl⟩, ⟨m, hy⟩⟩
set_option maxRecDepth 100000 in
theorem clks3_of {base : Nat} {v : Value} {d : DataW H} {ps : List MemPlace} (hv : Value.okWide Try.prog W .any base 24 v) (h : DataW.Trod enc Try.prog W 0 (fun _ => true) true 24 v d ps)
    (hw : (d.weights Try.prog 24).all (· ≤ reachBytes) = true) :
    ∃ (a b c : Value) (x y z : List Dot) (d0 d1 d2 : DataW H), v = .agg #[a, b, c] ∧ d = .agg [d0, d1, d2] ∧ (ClkIn W a x ∧ (∀ d ∈ x, d.ok) ∧ x.length ≤ 8796093022000 ∧ x.length ≤ lenD d0) ∧
      (ClkIn W b y ∧ (∀ d ∈ y, d.ok) ∧ y.length ≤ 8796093022000 ∧ y.length ≤ lenD d1) ∧ (ClkIn W c z ∧ (∀ d ∈ z, d.ok) ∧ z.length ≤ 8796093022000 ∧ z.length ≤ lenD d2) := by
  obtain ⟨cs, rfl, hc⟩ := okWide_array Try.underlying24 hv
  obtain ⟨fuel, hf⟩ := h
  have hf : DataW.trod enc Try.prog W 0 (fun _ => true) true fuel 24 cs.toList = some (d, ps) := hf
  obtain ⟨xs, m, _, hd, hl, hlen, hf⟩ := DataW.trod_array Try.underlying24 hf
  have c3 : Try.prog.cellsOf 24 = 3 := by kernel_rfl
  rw [c3] at hl
  obtain ⟨cs⟩ := cs
  obtain ⟨a0, a1, a2, rfl⟩ := list3_of hl
  · have h0 := hf 0 (by decide)
    have h1 := hf 1 (by decide)
    have h2 := hf 2 (by decide)
    rw [cellsClock] at h0 h1 h2
    simp only [List.drop_zero, List.take_succ_cons, List.take_zero, List.drop_succ_cons, Nat.mul_one] at h0 h1 h2
    obtain ⟨y0, y1, y2, rfl⟩ := list3_of hlen
    · simp only [List.getElem?_cons_zero, List.getElem?_cons_succ] at h0 h1 h2
      obtain rfl : d = _ := (Prod.mk.inj hd).1
      unfold DataW.weights at hw
      rw [Try.underlying24] at hw
      simp only [List.map_cons, List.map_nil, DataW.weightsAll, List.append_nil, List.all_append, Bool.and_eq_true] at hw
      obtain ⟨hw0, hw1, hw2⟩ := hw
      obtain ⟨s0, t0⟩ := clk_cell _ _ _ h0
      obtain ⟨s1, t1⟩ := clk_cell _ _ _ h1
      obtain ⟨s2, t2⟩ := clk_cell _ _ _ h2
      obtain ⟨x, hx⟩ := clk_of2 s0 t0 hw0
      obtain ⟨y, hy⟩ := clk_of2 s1 t1 hw1
      obtain ⟨z, hz⟩ := clk_of2 s2 t2 hw2
      exact ⟨_, _, _, x, y, z, _, _, _, rfl, rfl, hx, hy, hz⟩
end
end Go.Proofs.Ytaglginhaofgeaa
