/- What the quorum's laws take. -/
import Derived.Test.YtcemlacfldonlaaSlices
import Derived.Test.YtcemlacfldonlaaOpen
import Derived.Test.YtcemlacfldonlaaProg
import Derived.OpenShut
namespace Go.Proofs.Ytcemlacfldonlaa
open Go.RowKit Go.ChangeMaps Go.ChangeShapes Go.WideShapes Go.ChangeAt
theorem okWide_array {P : Program} {w : World} {base : Nat} {t : TypeId} {v : Value} {n : Nat} {e : TypeId} (ht : P.underlying t = some (.array n e)) (h : Value.okWide P w .any base t v) : ∃ cs, v = .agg cs ∧ cs.size = P.cellsOf t := by
  simp only [Value.okWide, ht] at h
  obtain ⟨cs, h1, h2, _⟩ := h
  exact ⟨cs, h1, h2⟩
theorem list2_of {α : Type} {l : List α} (h : l.length = 2) : ∃ a b, l = [a, b] := by
  match l, h with
  | [a, b], _ => exact ⟨a, b, rfl⟩
theorem cells4 : Try.prog.cellsOf 4 = 1 := by kernel_rfl
section
variable {H : Type} {enc : TypeId × Value → H} {W : World}
set_option maxRecDepth 100000 in
theorem ints2_of {base : Nat} {v : Value} {d : DataW H} {ps : List MemPlace} (hv : Value.okWide Try.prog W .any base 42 v) (h : DataW.Trod enc Try.prog W 0 (fun _ => true) true 42 v d ps) :
    ∃ a b : Int, v = .agg #[.int .i64 a, .int .i64 b] := by
  obtain ⟨cs, rfl, hc⟩ := okWide_array Try.underlying42 hv
  obtain ⟨fuel, hf⟩ := h
  have hf : DataW.trod enc Try.prog W 0 (fun _ => true) true fuel 42 cs.toList = some (d, ps) := hf
  obtain ⟨xs, m, _, _, hl, hlen, hf⟩ := DataW.trod_array Try.underlying42 hf
  have c3 : Try.prog.cellsOf 42 = 2 := by kernel_rfl
  have c1 : Try.prog.cellsOf 3 = 1 := by kernel_rfl
  rw [c3] at hl
  obtain ⟨cs⟩ := cs
  obtain ⟨a0, a1, rfl⟩ := list2_of hl
  · have h0 := hf 0 (by decide)
    have h1 := hf 1 (by decide)
    rw [c1] at h0 h1
    simp only [List.drop_zero, List.take_succ_cons, List.take_zero, List.drop_succ_cons, Nat.mul_one] at h0 h1
    obtain ⟨y0, y1, rfl⟩ := list2_of hlen
    · obtain ⟨k, e0, _, _⟩ := DataW.trod_int Try.underlying3 h0
      obtain ⟨l, e1, _, _⟩ := DataW.trod_int Try.underlying3 h1
      simp only [List.cons.injEq, and_true] at e0 e1
      subst e0 e1
      exact ⟨_, _, rfl⟩
set_option maxRecDepth 100000 in
theorem bools_of {base : Nat} {v : Value} {d : DataW H} {ps : List MemPlace}
    (hv : Value.okWide Try.prog W .any base 43 v) (h : DataW.Trod enc Try.prog W 0 (fun _ => true) true 43 v d ps) :
    ∃ (A : Option Addr) (cap : Nat) (ts : List Bool), v = .slice A ts.length cap ∧ ARow W W.heap.size A (ts.map Value.bool) := by
  obtain ⟨A, cap, ts, h1, h2, -⟩ := slice_of (α := Bool) (fun b => [.bool b]) (fun _ _ => True) 1 (by decide) Try.underlying43 cells4 (fun _ => rfl)
    (fun n cs x hx => by obtain ⟨m, h1, _⟩ := DataW.trod_bool Try.underlying4 hx; exact ⟨m, h1, trivial⟩) hv h
  refine ⟨A, cap, ts, h1, ?_⟩
  have : (ts.flatMap fun b => [Value.bool b]) = ts.map Value.bool := by
    clear h1 h2
    induction ts with
    | nil => rfl
    | cons s tb ih => rw [List.flatMap_cons, ih]; rfl
  rw [← this]
  exact h2
end
end Go.Proofs.Ytcemlacfldonlaa
