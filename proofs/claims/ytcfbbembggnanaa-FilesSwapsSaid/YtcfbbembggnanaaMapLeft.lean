/- How many entries a range over a map has not handed out yet: a measure for the loop. -/
import Derived.Test.YtcfbbembggnanaaMaps
namespace Go.Proofs.Ytcfbbembggnanaa
open Go.RowKit Go.Maps
def leftN (w : World) (it b : Nat) : Nat := match w.heap[b]?, w.heap[it]? with | some (.map es _), some (.mapIter _ _ seen _) => (leftOf es seen).size | _, _ => 0
theorem RangeIs.leftN {α β : Type} [DecidableEq α] {encK : α → Value} {encV : β → Value} {w : World} {it b : Nat} {D Left : List (α × β)} (h : RangeIs encK encV w it b D Left) : leftN w it b = Left.length := by
  obtain ⟨es, clock, seen, since, last, hb, hit, _, _, _, _, _, _, hleft⟩ := h
  have := congrArg List.length hleft
  simp only [List.length_map, Array.length_toList] at this
  unfold Ytcfbbembggnanaa.leftN
  rw [hb, hit]
  exact this
theorem filter_key_len {α β : Type} [DecidableEq α] {D : List (α × β)} (hn : (D.map Prod.fst).Nodup) {d : α × β} (hd : d ∈ D) : (D.filter (fun z => decide (z.1 ≠ d.1))).length + 1 = D.length := by
  obtain ⟨j, hj⟩ := List.getElem?_of_mem hd
  have := filter_set (a := d.1) (v0 := d.2) hn hj
  have hl := (List.getElem?_eq_some_iff.1 hj).1
  rw [this, List.length_eraseIdx_of_lt hl]
  omega
end Go.Proofs.Ytcfbbembggnanaa
