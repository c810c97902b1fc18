/- say, Yes, No of one node. -/
import Derived.Test.YtcemlacfldonlaaQuoVerd
namespace Go.Proofs.Ytcemlacfldonlaa
open Go.RowKit
def newB (n : Int) (x : Tg) : Bool := decide (x.node = n) && decide (x.said = 0)
def sayL (what n : Int) (L : List Tg) : List Tg := L.map fun x => if newB n x then { x with said := what } else x
theorem say_len (what n : Int) (L : List Tg) : (sayL what n L).length = L.length := by simp [sayL]
theorem say_nodes (what n : Int) (L : List Tg) : (sayL what n L).map Tg.node = L.map Tg.node := by
  unfold sayL
  rw [List.map_map]
  refine List.map_congr_left fun x _ => ?_
  simp only [Function.comp]
  split <;> rfl
theorem say_none {what n : Int} {L : List Tg} (h : ∀ x ∈ L, newB n x = false) : sayL what n L = L ∧ L.any (newB n) = false := by
  constructor
  · unfold sayL
    conv => rhs; rw [← List.map_id L]
    exact List.map_congr_left fun x hx => by rw [h x hx]; rfl
  · rw [List.any_eq_false]
    intro x hx
    rw [h x hx]; simp
theorem node_only {L : List Tg} (hn : (L.map Tg.node).Nodup) {k : Nat} (hk : k < L.length) : ∀ x ∈ L, x.node = L[k].node → x = L[k] := by
  intro x hx e
  obtain ⟨j, hj, rfl⟩ := List.getElem_of_mem hx
  have hp := List.pairwise_iff_getElem.1 hn
  rcases Nat.lt_trichotomy j k with h | h | h
  · exact absurd (by rw [List.getElem_map, List.getElem_map]; exact e) (hp j k (by simpa using hj) (by simpa using hk) h)
  · subst h; rfl
  · exact absurd (by rw [List.getElem_map, List.getElem_map]; exact e.symm) (hp k j (by simpa using hk) (by simpa using hj) h)
theorem say_set {what n : Int} {L : List Tg} (hn : (L.map Tg.node).Nodup) {k : Nat} (hk : k < L.length) (h1 : L[k].node = n) (h2 : L[k].said = 0) : sayL what n L = L.set k { L[k] with said := what } ∧ L.any (newB n) = true := by
  have hb : newB n L[k] = true := by unfold newB; simp [h1, h2]
  refine ⟨?_, List.any_eq_true.2 ⟨_, List.getElem_mem hk, hb⟩⟩
  apply List.ext_getElem
  · simp [sayL]
  · intro j hj hj2
    have hjL : j < L.length := by simpa [sayL] using hj
    have hm : (sayL what n L)[j] = if newB n L[j] then { L[j] with said := what } else L[j] := by simp only [sayL, List.getElem_map]
    rw [List.getElem_set, hm]
    by_cases e : k = j
    · subst e
      rw [if_pos rfl, if_pos hb]
    · rw [if_neg e]
      have : newB n L[j] = false := by
        unfold newB
        have : L[j].node ≠ n := fun q => by
          have hp := List.pairwise_iff_getElem.1 hn
          rcases Nat.lt_or_ge j k with h | h
          · exact hp j k (by simpa using hjL) (by simpa using hk) h (by rw [List.getElem_map, List.getElem_map, q, h1])
          · exact hp k j (by simpa using hk) (by simpa using hjL) (by omega) (by rw [List.getElem_map, List.getElem_map, q, h1])
        simp [this]
      rw [if_neg (by rw [this]; simp)]
theorem flat_setS (what : Int) : ∀ (L : List Tg) (k : Nat) (hk : k < L.length), (L.flatMap Tg.cells).set (k * 4 + 2) (.int .i64 what) = (L.set k { L[k] with said := what }).flatMap Tg.cells
  | [], k, hk => by simp at hk
  | x :: L, 0, _ => rfl
  | x :: L, k + 1, hk => by
    have := flat_setS what L k (by simpa using hk)
    rw [List.flatMap_cons, List.set_cons_succ, List.flatMap_cons, List.getElem_cons_succ, ← this]
    have hl : x.cells.length = 4 := rfl
    rw [List.set_append_right _ _ (by rw [hl]; omega), hl, show (k + 1) * 4 + 2 - 4 = k * 4 + 2 by omega]
section
variable {w : World} {g ty : Nat} {F : List Nat} {need prime : Int} {L : List Tg}
/-- One target's word is written. -/
theorem TyIs.write {A : Option Addr} {c : Nat} (h : TyIs w g ty F need prime L) (h1 : Has w g ty [.slice A L.length c, .int .i64 need, .int .i64 prime]) {k : Nat} (hk : k < L.length) {blk o : Nat} (hA : A = some ⟨blk, o, none⟩) (what : Int) :
    o = 0 ∧ w.frozen? ⟨blk, k * 4 + 2, none⟩ = false ∧ TyIs (w.setCell ⟨blk, k * 4 + 2, none⟩ (.int .i64 what)) g ty F need prime (L.set k { L[k] with said := what }) ∧ One blk w (w.setCell ⟨blk, k * 4 + 2, none⟩ (.int .i64 what)) ∧ blk ∈ F := by
  obtain ⟨A', c', h1', h2, h3⟩ := h.ex
  have e := h1.cell 0
  rw [h1'.cell 0] at e
  simp only [List.getElem?_cons_zero, Option.some.injEq, Value.slice.injEq, true_and] at e
  obtain ⟨rfl, rfl⟩ := e
  subst hA
  have hlen := h2.1
  rcases h2.2 with ⟨h0, _⟩ | ⟨g2, cap, cur, he, hb, hg, hn, hcm, hcs, htk⟩
  · cases h0
  · injection he with e1 e2 e3
    injection e1 with e1
    injection e1 with e4 e5
    subst e4 e5 e3
    have hH : Has w blk 62 cur.toList := by unfold Has; rw [hg]
    obtain ⟨m1, m2⟩ := h3 blk 0 rfl
    have o1 := (One.refl blk w).setCell (k * 4 + 2) (.int .i64 what)
    refine ⟨rfl, hH.frozen _, ⟨⟨some ⟨blk, 0, none⟩, c', ?_, ⟨?_, .inr ⟨blk, c', (cur.toList.set (k * 4 + 2) (.int .i64 what)).toArray, ?_, Nat.zero_le _, ?_, ?_, hcm, ?_, ?_⟩⟩, ?_⟩, h.self, fun q hq => by rw [o1.size]; exact h.lt q hq⟩, o1, m1⟩
    · rw [List.length_set]; exact h1.one o1 (Ne.symm m2)
    · rw [List.length_set, ← flat_setS what L k hk, List.length_set]; exact hlen
    · rw [List.length_set]
    · exact hH.set (k * 4 + 2) (.int .i64 what)
    · rw [List.length_set]; exact hn
    · simpa using hcs
    · rw [List.length_set, ← flat_setS what L k hk, ← htk]
      simp only [List.take_set]
    · intro b o e; injection e with e; injection e with e1 e2; subst e1; exact ⟨m1, m2⟩
end
end Go.Proofs.Ytcemlacfldonlaa
