/- Lists as maps: what is found behind a put, a filter. -/
import Derived.Test.YtcfbbembggnanaaMaps
namespace Go.Proofs.Ytcfbbembggnanaa
open Go.RowKit Go.Maps
variable {α β : Type} [DecidableEq α]
theorem getL_isSome (D : List (α × β)) (q : α) : (getL D q).isSome = decide (q ∈ D.map Prod.fst) := by
  unfold getL
  induction D with
  | nil => simp
  | cons d D ih =>
    obtain ⟨a, b⟩ := d
    rw [List.lookup_cons, List.map_cons]
    split
    · rename_i e
      have e := beq_iff_eq.1 e
      subst e; simp
    · rename_i e
      have e := beq_eq_false_iff_ne.1 e
      rw [ih]
      simp [e]
theorem putL_keys (D : List (α × β)) (p : α) (v : β) (q : α) : q ∈ (putL D p v).map Prod.fst ↔ q ∈ D.map Prod.fst ∨ q = p := by
  unfold putL
  split
  · rename_i hm
    have : (D.map fun d => if d.1 = p then (p, v) else d).map Prod.fst = D.map Prod.fst := by
      rw [List.map_map]
      refine List.map_congr_left fun d _ => ?_
      simp only [Function.comp]
      split
      · rename_i e; exact e.symm
      · rfl
    rw [this]
    constructor
    · exact .inl
    · rintro (h | rfl)
      · exact h
      · exact hm
  · simp
end Go.Proofs.Ytcfbbembggnanaa
