/- Rows of one's own: as rows that are read; frames. -/
import Derived.Test.YtkclpkepmckjgaaSlices
import Derived.OwnWalk
namespace Go.Proofs.Ytkclpkepmckjgaa
open Go.RowKit
theorem own_arow {w : World} {base e size n : Nat} {v : Value} {xs : List Value} (h : w.ownsRow base e size v n xs) : ∃ A c, v = .slice A n c ∧ ARow w w.heap.size A xs := by
  rcases h.2 with ⟨hv, h0⟩ | ⟨g, cap, cur, hv, hbg, hh, r⟩
  · exact ⟨none, 0, by rw [hv, h0], .inl (List.eq_nil_of_length_eq_zero (by rw [h.1, h0, Nat.zero_mul]))⟩
  · rw [hv] at h
    refine ⟨_, cap, hv, .inr ⟨g, 0, rfl, (Array.getElem?_eq_some_iff.1 hh).1, fun j u hu => ?_⟩⟩
    have hj : j < n * size := by
      have := (List.getElem?_eq_some_iff.1 hu).1
      rwa [h.1] at this
    have := h.cellAt j hj
    rw [Nat.zero_add, this]
    exact hu
theorem own_fr {w w' : World} {base e size n : Nat} {v : Value} {xs : List Value} {B : Nat} {S : List Nat} (h : w.ownsRow base e size v n xs) (hF : ∀ k, v.ownBlock = some k → k < B ∧ k ∉ S) (hf : Fr B S w w') : w'.ownsRow base e size v n xs := by
  refine ⟨h.1, ?_⟩
  rcases h.2 with h0 | ⟨g, cap, cur, rfl, hb, hg, r⟩
  · exact .inl h0
  · obtain ⟨h1, h2⟩ := hF g rfl
    exact .inr ⟨g, cap, cur, rfl, hb, (hf.block g h1 h2).trans hg, r⟩
theorem own_one {w w' : World} {base e size n b : Nat} {v : Value} {xs : List Value} (h : w.ownsRow base e size v n xs) (o : One b w w') (hne : some b ≠ v.ownBlock) : w'.ownsRow base e size v n xs := by
  refine ⟨h.1, ?_⟩
  rcases h.2 with h0 | ⟨g, cap, cur, rfl, hb, hg, r⟩
  · exact .inl h0
  · exact .inr ⟨g, cap, cur, rfl, hb, (o.block g (fun e => hne (by rw [e]; rfl))).trans hg, r⟩
theorem ones_dot {x y : Value} (hx : x.oneCell' = true) (hy : y.oneCell' = true) : ∀ u ∈ [x, y], u.oneCell' = true := fun u hu => by
  simp only [List.mem_cons, List.not_mem_nil, or_false] at hu
  rcases hu with rfl | rfl
  · exact hx
  · exact hy
end Go.Proofs.Ytkclpkepmckjgaa
