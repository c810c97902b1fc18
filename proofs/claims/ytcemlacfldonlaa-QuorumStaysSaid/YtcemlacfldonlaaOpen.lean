/- What comes in, opened: weights, strings, numbers. -/
import Derived.Test.YtcemlacfldonlaaLaw
import Derived.SizedLaws
import Derived.JoinedCond
import Derived.Deep.CondSized
import Derived.SliceStrings
import Derived.Deep.Slices
namespace Go.Proofs.Ytcemlacfldonlaa
open Go.ChangeShapes Go.WideShapes Go.ChangeAt Go.RowKit Go.ChangeMaps
section
variable {H : Type} {P : Program}
theorem weights_cons {t : TypeId} {ts : List TypeId} {d : DataW H} {ds : List (DataW H)} (h : (DataW.weightsEach P (t :: ts) (d :: ds)).all (· ≤ reachBytes) = true) :
    (d.weights P t).all (· ≤ reachBytes) = true ∧ (DataW.weightsEach P ts ds).all (· ≤ reachBytes) = true := by
  unfold DataW.weightsEach at h
  rw [List.all_append, Bool.and_eq_true] at h
  exact h
theorem weights_str {t : TypeId} {s : ByteArray} (h : ((DataW.lit (H := H) (.string s.data.toList)).weights P t).all (· ≤ reachBytes) = true) : s.size ≤ 140737488351232 := by
  simp only [DataW.weights, List.all_cons, List.all_nil, Bool.and_true, decide_eq_true_eq, Array.length_toList] at h
  exact h
theorem weights_len {t e : TypeId} {elems spare : List (DataW H)} (ht : P.underlying t = some (.slice e)) (h : ((DataW.slice elems spare).weights P t).all (· ≤ reachBytes) = true) : elems.length * P.bytesOf e ≤ 140737488351232 := by
  unfold DataW.weights at h
  rw [ht] at h
  simp only [List.all_cons, Bool.and_eq_true, decide_eq_true_eq] at h
  exact Nat.le_trans (Nat.mul_le_mul_right _ (Nat.le_add_right _ _)) h.1
theorem weights_all {t e : TypeId} {elems spare : List (DataW H)} (ht : P.underlying t = some (.slice e)) (h : ((DataW.slice elems spare).weights P t).all (· ≤ reachBytes) = true) : (DataW.weightsAll P e elems).all (· ≤ reachBytes) = true := by
  unfold DataW.weights at h
  rw [ht] at h
  simp only [List.all_cons, List.all_append, Bool.and_eq_true] at h
  exact h.2.1
end
theorem spot_no {w : World} {a : Addr} {v : Value} (h : w.cell? a = some v) : a.spot = none := by
  unfold World.cell? at h
  split at h
  · split at h
    · cases h
    · simpa using ‹¬ a.spot.isSome = true›
  · cases h
end Go.Proofs.Ytcemlacfldonlaa
