/- WheelOnce: the plain law. -/
import Derived.Test.YtkclpkepmckjgaaWhlNil
namespace Go.Proofs.Ytkclpkepmckjgaa
open Go.RowKit Go.Maps Go.Sort Go.Shelf
open Wh
namespace Wh
def row5 (f : Nat → Value) : List Value := (List.range 5).map f
theorem row5_at (f : Nat → Value) {m : Nat} (h : m < 5) : (row5 f)[m]? = some (f m) := by simp [row5, h]
theorem row5_set (f : Nat → Value) (k : Nat) (v : Value) : (row5 f).set k v = row5 fun m => if m = k then v else f m := by
  unfold row5
  apply List.ext_getElem?
  intro j
  rw [List.getElem?_set, List.getElem?_map, List.getElem?_map, List.length_map, List.length_range]
  by_cases hjk : k = j
  · subst hjk
    rw [if_pos rfl]
    by_cases hk : k < 5
    · simp [hk]
    · simp [hk]
  · rw [if_neg hjk]
    by_cases hj : j < 5
    · simp [hj, Ne.symm hjk]
    · simp [hj]
theorem row5_congr {f g : Nat → Value} (h : ∀ m, m < 5 → f m = g m) : row5 f = row5 g := List.map_congr_left fun m hm => h m (by simpa using hm)
def kd : Key := ⟨[100], by decide⟩
def ke : Key := ⟨[101], by decide⟩
def nm : Nat → Key
  | 0 => ka
  | 1 => kb
  | 2 => kc
  | 3 => kd
  | _ => ke
theorem nm_inj : ∀ m, m < 5 → ∀ k, k < 5 → nm m = nm k → m = k := by decide
/-- What the law's two lists say of the timers. -/
structure Inv (L : List (Key × Int)) (la : Nat → Int) (se : Nat → Bool) : Prop where
  mem : ∀ p v, (p, v) ∈ L ↔ ∃ m, m < 5 ∧ p = nm m ∧ se m = true ∧ la m = v
  nod : (L.map Prod.fst).Nodup
theorem Inv.start (la : Nat → Int) : Inv [] la fun _ => false := ⟨by simp, by simp⟩
theorem mem_set1 {a : Int} {L : List (Key × Int)} {x p : Key} {v : Int} : (p, v) ∈ set1 a L x ↔ ((p, v) ∈ L ∧ p ≠ x) ∨ (p = x ∧ v = a) := by
  simp [set1, cut1, List.mem_append, List.mem_filter]
theorem mem_cutV {L : List (Key × Int)} {xs : List Key} {p : Key} {v : Int} : (p, v) ∈ cutV L xs ↔ (p, v) ∈ L ∧ p ∉ xs := by
  simp [cutV, List.mem_filter]
theorem nod_set1 {a : Int} {L : List (Key × Int)} (x : Key) (h : (L.map Prod.fst).Nodup) : ((set1 a L x).map Prod.fst).Nodup := by
  unfold set1 cut1
  rw [List.map_append, List.nodup_append]
  refine ⟨h.sublist (List.Sublist.map _ List.filter_sublist), by simp, ?_⟩
  intro y hy z hz
  simp at hz
  obtain ⟨d, hd, rfl⟩ := List.mem_map.1 hy
  rw [hz]
  simpa using (List.mem_filter.1 hd).2
theorem nod_cutV {L : List (Key × Int)} (xs : List Key) (h : (L.map Prod.fst).Nodup) : ((cutV L xs).map Prod.fst).Nodup := h.sublist (List.Sublist.map _ List.filter_sublist)
theorem Inv.set {L : List (Key × Int)} {la : Nat → Int} {se : Nat → Bool} (h : Inv L la se) (a : Int) {k : Nat} (hk : k < 5) : Inv (set1 a L (nm k)) (fun m => if m = k then a else la m) (fun m => if m = k then true else se m) := by
  refine ⟨fun p v => ?_, nod_set1 _ h.nod⟩
  rw [mem_set1, h.mem]
  constructor
  · rintro (⟨⟨m, h1, rfl, h2, h3⟩, h4⟩ | ⟨rfl, rfl⟩)
    · have hm : m ≠ k := fun e => h4 (by rw [e])
      exact ⟨m, h1, rfl, by rw [if_neg hm]; exact h2, by rw [if_neg hm]; exact h3⟩
    · exact ⟨k, hk, rfl, by rw [if_pos rfl], by rw [if_pos rfl]⟩
  · rintro ⟨m, h1, rfl, h2, h3⟩
    by_cases hm : m = k
    · subst hm
      rw [if_pos rfl] at h3
      exact .inr ⟨rfl, h3.symm⟩
    · rw [if_neg hm] at h2 h3
      exact .inl ⟨⟨m, h1, rfl, h2, h3⟩, fun e => hm (nm_inj m h1 k hk e)⟩
theorem Inv.cut {L : List (Key × Int)} {la : Nat → Int} {se : Nat → Bool} (h : Inv L la se) (xs : List Key) : Inv (cutV L xs) la (fun m => se m && decide (nm m ∉ xs)) := by
  refine ⟨fun p v => ?_, nod_cutV _ h.nod⟩
  rw [mem_cutV, h.mem]
  constructor
  · rintro ⟨⟨m, h1, rfl, h2, h3⟩, h4⟩
    exact ⟨m, h1, rfl, by simp [h2, h4], h3⟩
  · rintro ⟨m, h1, rfl, h2, h3⟩
    simp only [Bool.and_eq_true, decide_eq_true_eq] at h2
    exact ⟨⟨m, h1, rfl, h2.1, h3⟩, h2.2⟩
theorem Inv.congr {L : List (Key × Int)} {la : Nat → Int} {se se' : Nat → Bool} (h : Inv L la se) (he : ∀ m, m < 5 → se m = se' m) : Inv L la se' := by
  refine ⟨fun p v => ?_, h.nod⟩
  rw [h.mem]
  constructor
  · rintro ⟨m, h1, h2, h3, h4⟩
    exact ⟨m, h1, h2, by rw [← he m h1]; exact h3, h4⟩
  · rintro ⟨m, h1, h2, h3, h4⟩
    exact ⟨m, h1, h2, by rw [he m h1]; exact h3, h4⟩
def cnt (se : Nat → Bool) (j : Nat) : Nat := ((List.range j).filter se).length
theorem cnt_succ (se : Nat → Bool) (j : Nat) : cnt se (j + 1) = cnt se j + if se j then 1 else 0 := by
  unfold cnt
  rw [List.range_succ, List.filter_append, List.length_append]
  cases h : se j <;> simp [h]
theorem cnt_le (se : Nat → Bool) (j : Nat) : cnt se j ≤ j := by
  unfold cnt
  have := List.length_filter_le se (List.range j)
  simpa using this
theorem Inv.len {L : List (Key × Int)} {la : Nat → Int} {se : Nat → Bool} (h : Inv L la se) : L.length = cnt se 5 := by
  have hp : (L.map Prod.fst).Perm (((List.range 5).filter se).map nm) := by
    refine (List.perm_ext_iff_of_nodup h.nod ?_).2 fun p => ?_
    · have hn : ((List.range 5).filter se).Nodup := List.Nodup.sublist List.filter_sublist List.nodup_range
      refine List.pairwise_map.2 (List.Pairwise.imp_of_mem ?_ hn)
      intro a b ha hb hab he
      have ha2 := (List.mem_filter.1 ha).1
      have hb2 := (List.mem_filter.1 hb).1
      exact hab (nm_inj a (by simpa using ha2) b (by simpa using hb2) he)
    · constructor
      · intro hp
        obtain ⟨⟨p', v⟩, hd, rfl⟩ := List.mem_map.1 hp
        obtain ⟨m, h1, h2, h3, _⟩ := (h.mem p' v).1 hd
        exact List.mem_map.2 ⟨m, List.mem_filter.2 ⟨by simpa using h1, h3⟩, h2.symm⟩
      · intro hp
        obtain ⟨m, hm, rfl⟩ := List.mem_map.1 hp
        obtain ⟨h1, h2⟩ := List.mem_filter.1 hm
        exact List.mem_map.2 ⟨(nm m, la m), (h.mem _ _).2 ⟨m, by simpa using h1, rfl, h2, rfl⟩, rfl⟩
  have := hp.length_eq
  simpa [cnt] using this
theorem dueR_perm (t : Int) : ∀ (f : Nat) (L : List (Key × Int)), L.length ≤ f → (L.map Prod.fst).Nodup → (dueR t f L).Perm ((L.filter fun d => decide (d.2 ≤ t)).map Prod.fst)
  | 0, L, h, _ => by
    obtain rfl : L = [] := List.eq_nil_of_length_eq_zero (by omega)
    exact .nil
  | f + 1, L, h, hn => by
    rw [dueR]
    by_cases hc : L = [] ∨ t < nextR L
    · rw [if_pos hc]
      rcases hc with rfl | hc
      · exact .nil
      · rw [List.filter_eq_nil_iff.2 fun d hd => by have := nextR_le hd; simp; omega]
        exact .nil
    · rw [if_neg hc]
      obtain ⟨h1, h2⟩ := not_or.1 hc
      obtain ⟨y, hy, hy2⟩ := nextR_mem h1
      cases hf : L.find? (fun d => decide (d.2 = nextR L)) with
      | none =>
        have := List.find?_eq_none.1 hf y hy
        simp [hy2] at this
      | some d =>
        have hd : d ∈ L := List.mem_of_find?_eq_some hf
        have hd2 : d.2 = nextR L := by simpa using List.find?_some hf
        obtain ⟨l1, l2, rfl⟩ := List.append_of_mem hd
        have hn2 : ∀ e ∈ l1 ++ l2, e.1 ≠ d.1 := by
          have : ((d :: (l1 ++ l2)).map Prod.fst).Nodup := ((List.perm_middle.symm.map Prod.fst).nodup_iff).2 hn
          rw [List.map_cons, List.nodup_cons] at this
          exact fun e he hee => this.1 (hee ▸ List.mem_map_of_mem he)
        have hcut : cut1 (l1 ++ d :: l2) d.1 = l1 ++ l2 := by
          unfold cut1
          rw [List.filter_append, List.filter_cons_of_neg (by simp), List.filter_eq_self.2 fun e he => by simpa using hn2 e (by simp [he]), List.filter_eq_self.2 fun e he => by simpa using hn2 e (by simp [he])]
        simp only
        rw [hcut]
        have ih := dueR_perm t f (l1 ++ l2) (by simp at h ⊢; omega) (hn.sublist (List.Sublist.map _ (by simp)))
        refine (ih.cons d.1).trans ?_
        have hp : ((d :: (l1 ++ l2)).filter fun d => decide (d.2 ≤ t)).Perm ((l1 ++ d :: l2).filter fun d => decide (d.2 ≤ t)) := (List.perm_middle.symm).filter _
        rw [List.filter_cons_of_pos (by simp; omega)] at hp
        exact hp.map Prod.fst
theorem mem_due {t : Int} {L : List (Key × Int)} (hn : (L.map Prod.fst).Nodup) {p : Key} : p ∈ dueR t L.length L ↔ ∃ v, (p, v) ∈ L ∧ v ≤ t := by
  rw [(dueR_perm t L.length L (Nat.le_refl _) hn).mem_iff]
  constructor
  · intro h
    obtain ⟨⟨p', v⟩, hd, rfl⟩ := List.mem_map.1 h
    obtain ⟨h1, h2⟩ := List.mem_filter.1 hd
    exact ⟨v, h1, by simpa using h2⟩
  · rintro ⟨v, h1, h2⟩
    exact List.mem_map.2 ⟨(p, v), List.mem_filter.2 ⟨h1, by simpa using h2⟩, rfl⟩
theorem nod_due {t : Int} {L : List (Key × Int)} (hn : (L.map Prod.fst).Nodup) : (dueR t L.length L).Nodup :=
  (dueR_perm t L.length L (Nat.le_refl _) hn).nodup_iff.2 (hn.sublist (List.Sublist.map _ List.filter_sublist))
theorem due_len {t : Int} {L : List (Key × Int)} (hn : (L.map Prod.fst).Nodup) : (dueR t L.length L).length ≤ L.length := by
  rw [(dueR_perm t L.length L (Nat.le_refl _) hn).length_eq, List.length_map]
  exact List.length_filter_le _ _
/-- The law's second list on its way. -/
def seAt (se : Nat → Bool) (xs : List Key) (n j : Nat) (m : Nat) : Bool := se m && decide (nm m ∉ xs.take n) && !(decide (m < j) && decide (xs[n]? = some (nm m)))
theorem seAt_zero (se : Nat → Bool) (xs : List Key) : seAt se xs 0 0 = se := by
  funext m
  simp [seAt]
theorem seAt_next (se : Nat → Bool) (xs : List Key) (n : Nat) (hn : n < xs.length) (m : Nat) (hm : m < 5) : seAt se xs n 5 m = seAt se xs (n + 1) 0 m := by
  unfold seAt
  rw [List.take_add_one, List.getElem?_eq_getElem hn]
  simp only [Option.toList_some, List.mem_append, List.mem_singleton, not_or, Option.some.injEq, hm, decide_true, Bool.true_and, Nat.not_lt_zero, decide_false, Bool.false_and, Bool.not_false, Bool.and_true]
  by_cases h1 : nm m ∈ xs.take n <;> by_cases h2 : xs[n] = nm m
  · simp [h1]
  · simp [h1]
  · simp [h1, h2]
  · simp [h1, h2, Ne.symm h2]
theorem seAt_skip (se : Nat → Bool) (xs : List Key) (n j : Nat) (h : xs[n]? ≠ some (nm j)) (m : Nat) : seAt se xs n (j + 1) m = seAt se xs n j m := by
  unfold seAt
  by_cases hm : m = j
  · subst hm; simp [h]
  · have : decide (m < j + 1) = decide (m < j) := by simp; omega
    rw [this]
theorem seAt_take (se : Nat → Bool) (xs : List Key) (n j : Nat) (h : xs[n]? = some (nm j)) (m : Nat) : seAt se xs n (j + 1) m = if m = j then false else seAt se xs n j m := by
  unfold seAt
  by_cases hm : m = j
  · subst hm; simp [h]
  · have : decide (m < j + 1) = decide (m < j) := by simp; omega
    rw [this, if_neg hm]
theorem seAt_end (se : Nat → Bool) (xs : List Key) (m : Nat) : seAt se xs xs.length 0 m = (se m && decide (nm m ∉ xs)) := by
  simp [seAt]
theorem nodup_take {xs : List Key} (h : xs.Nodup) {n : Nat} (hn : n < xs.length) : xs[n] ∉ xs.take n := by
  intro hm
  obtain ⟨i, hi, he⟩ := List.getElem_of_mem hm
  rw [List.getElem_take] at he
  have hi2 : i < n := by simp at hi; omega
  exact (List.pairwise_iff_getElem.1 h i n (by omega) hn hi2) he
theorem due_all {t : Int} {L : List (Key × Int)} (hn : (L.map Prod.fst).Nodup) (h : ∀ d ∈ L, d.2 ≤ t) : (dueR t L.length L).length = L.length ∧ cutV L (dueR t L.length L) = [] := by
  have hf : (L.filter fun d => decide (d.2 ≤ t)) = L := List.filter_eq_self.2 fun d hd => by simpa using h d hd
  refine ⟨?_, ?_⟩
  · rw [(dueR_perm t L.length L (Nat.le_refl _) hn).length_eq, List.length_map, hf]
  · unfold cutV
    rw [List.filter_eq_nil_iff]
    intro d hd
    have : d.1 ∈ dueR t L.length L := (mem_due hn).2 ⟨d.2, hd, h d hd⟩
    simp [this]
end Wh
end Go.Proofs.Ytkclpkepmckjgaa
