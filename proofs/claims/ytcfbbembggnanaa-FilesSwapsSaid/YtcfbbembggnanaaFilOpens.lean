/- Texts and numbers that come in. -/
import Derived.Test.YtcfbbembggnanaaFilAwake
namespace Go.Proofs.Ytcfbbembggnanaa
open Go.ChangeShapes Go.WideShapes Go.ChangeAt Go.RowKit Go.ChangeMaps
theorem cells9 : Try.prog.cellsOf 9 = 1 := by kernel_rfl
theorem cells3 : Try.prog.cellsOf 3 = 1 := by kernel_rfl
theorem bytes9 : Try.prog.bytesOf 9 = 16 := by kernel_rfl
theorem bytes3 : Try.prog.bytesOf 3 = 8 := by kernel_rfl
theorem weights_texts {H : Type} {P : Program} {e : TypeId} : ∀ (l : List ByteArray), (DataW.weightsAll P e (l.map fun s => (DataW.lit (H := H) (.string s.data.toList)))).all (· ≤ reachBytes) = true → ∀ p ∈ l, p.size ≤ 140737488351232
  | [], _, p, h => by simp at h
  | q :: l, h, p, hp => by
    rw [List.map_cons, DataW.weightsAll, List.all_append, Bool.and_eq_true] at h
    rcases List.mem_cons.1 hp with rfl | hp
    · exact weights_str h.1
    · exact weights_texts l h.2 p hp
theorem texts_of {H : Type} {enc : TypeId × Value → H} {W : World} {base : Nat} {v : Value} {d : DataW H} {ps : List MemPlace}
    (hv : Value.okWide Try.prog W .any base 22 v) (h : DataW.Trod enc Try.prog W 0 (fun _ => true) true 22 v d ps) (hb : (d.weights Try.prog 22).all (· ≤ reachBytes) = true) :
    ∃ (A : Option Addr) (cap : Nat) (ts : List (List UInt8)), v = .slice A ts.length cap ∧ ARow W W.heap.size A (ts.map strV) ∧ ts.length ≤ cap ∧ ts.length ≤ 8796093022208 ∧ ∀ s ∈ ts, s.length ≤ 140737488351232 := by
  obtain ⟨A, cap, tb, h1, h2, h3, h4, h5⟩ := strs_of Try.underlying22 Try.underlying9 cells9 hv h
  refine ⟨A, cap, tb.map (·.data.toList), by rw [List.length_map]; exact h1, ?_, by rw [List.length_map]; exact h3, ?_⟩
  · have : (tb.map (·.data.toList)).map strV = tb.flatMap fun s => [.string s] := by
      rw [List.map_map]
      clear h1 h2 h3 h5
      induction tb with
      | nil => rfl
      | cons s tb ih => rw [List.map_cons, List.flatMap_cons, ih]; rfl
    rw [this]
    exact h2
  · rcases h5 with ⟨_, rfl⟩ | ⟨sp, rfl⟩
    · simp
    · have hw := weights_len Try.underlying22 hb
      rw [bytes9, List.length_map] at hw
      have hw2 := weights_texts tb (weights_all Try.underlying22 hb)
      refine ⟨by rw [List.length_map]; omega, fun s hs => ?_⟩
      obtain ⟨b, hb', rfl⟩ := List.mem_map.1 hs
      have := hw2 b hb'
      rw [Array.length_toList]
      exact this
theorem nums_of {H : Type} {enc : TypeId × Value → H} {W : World} {base : Nat} {v : Value} {d : DataW H} {ps : List MemPlace}
    (hv : Value.okWide Try.prog W .any base 23 v) (h : DataW.Trod enc Try.prog W 0 (fun _ => true) true 23 v d ps) (hb : (d.weights Try.prog 23).all (· ≤ reachBytes) = true) :
    ∃ (A : Option Addr) (cap : Nat) (ts : List Int), v = .slice A ts.length cap ∧ ARow W W.heap.size A (ts.map (Value.int .i64)) ∧ ts.length ≤ cap ∧ ts.length ≤ 140737488351232 ∧ ∀ n ∈ ts, okI n := by
  obtain ⟨A, cap, ts, h1, h2, h3, h4, h5, h6⟩ := ints_of (k := .i64) Try.underlying23 Try.underlying3 cells3 hv h
  refine ⟨A, cap, ts, h1, ?_, h3, ?_, fun n hn => ?_⟩
  · have : (ts.flatMap fun n => [Value.int .i64 n]) = ts.map (Value.int .i64) := by
      clear h1 h2 h3 h5 h6
      induction ts with
      | nil => rfl
      | cons s tb ih => rw [List.map_cons, List.flatMap_cons, ih]; rfl
    rw [← this]
    exact h2
  · rcases h6 with ⟨_, rfl⟩ | ⟨ds, sp, rfl, hl⟩
    · simp
    · have hw := weights_len Try.underlying23 hb
      rw [bytes3, hl] at hw
      omega
  · obtain ⟨q1, q2⟩ := bounds_i64 (h5 n hn)
    exact ⟨q1, q2⟩
end Go.Proofs.Ytcfbbembggnanaa
