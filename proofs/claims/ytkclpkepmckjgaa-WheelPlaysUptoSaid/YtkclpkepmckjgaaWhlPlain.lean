/- A wheel's map as a list in the order in which its timers were set; what is due of such a list. -/
import Derived.Test.YtkclpkepmckjgaaWhlSet
import Derived.Test.YtkclpkepmckjgaaWhlNext
namespace Go.Proofs.Ytkclpkepmckjgaa
open Go.RowKit Go.Maps Go.Sort Go.Shelf
open Wh
namespace Wh
structure Ord (n : Int) (D LT : List (Key × Tm)) : Prop where
  perm : LT.Perm D
  asc : LT.Pairwise fun a b => a.2.ord < b.2.ord
  top : ∀ d ∈ LT, d.2.ord ≤ n
  nod : (D.map Prod.fst).Nodup
def view (LT : List (Key × Tm)) : List (Key × Int) := LT.map fun d => (d.1, d.2.at_)
/-- One name is taken away. -/
def cut1 (L : List (Key × Int)) (x : Key) : List (Key × Int) := L.filter fun d => decide (d.1 ≠ x)
def set1 (at_ : Int) (L : List (Key × Int)) (x : Key) : List (Key × Int) := cut1 L x ++ [(x, at_)]
def setV (at_ : Int) (L : List (Key × Int)) (xs : List Key) : List (Key × Int) := xs.foldl (set1 at_) L
def cutV (L : List (Key × Int)) (xs : List Key) : List (Key × Int) := L.filter fun d => decide (d.1 ∉ xs)
def nextR : List (Key × Int) → Int
  | [] => 0
  | x :: xs => xs.foldl (fun m y => if y.2 < m then y.2 else m) x.2
/-- What is due, by definition. -/
def dueR (now : Int) : Nat → List (Key × Int) → List Key
  | 0, _ => []
  | f + 1, L => if L = [] ∨ now < nextR L then [] else match L.find? fun d => decide (d.2 = nextR L) with
    | some d => d.1 :: dueR now f (cut1 L d.1)
    | none => []
theorem Ord.nil (n : Int) : Ord n [] [] := ⟨.nil, .nil, by simp, .nil⟩
theorem Ord.nodLT {n : Int} {D LT : List (Key × Tm)} (h : Ord n D LT) : (LT.map Prod.fst).Nodup := (h.perm.map Prod.fst).nodup_iff.2 h.nod
theorem putL_perm {D : List (Key × Tm)} (x : Key) (v : Tm) (h : (D.map Prod.fst).Nodup) : (putL D x v).Perm (D.filter (fun d => decide (d.1 ≠ x)) ++ [(x, v)]) := by
  unfold putL
  by_cases hx : x ∈ D.map Prod.fst
  · rw [if_pos hx]
    induction D with
    | nil => simp at hx
    | cons d D ih =>
      rw [List.map_cons, List.nodup_cons] at h
      by_cases hd : d.1 = x
      · subst hd
        have hn : ∀ e ∈ D, e.1 ≠ d.1 := fun e he hee => h.1 (hee ▸ List.mem_map_of_mem he)
        have e1 : D.map (fun e => if e.1 = d.1 then (d.1, v) else e) = D := by
          rw [List.map_congr_left (g := id) (fun e he => by simp [hn e he]), List.map_id]
        have e2 : D.filter (fun e => decide (e.1 ≠ d.1)) = D := List.filter_eq_self.2 fun e he => by simpa using hn e he
        rw [List.map_cons, if_pos rfl, e1, List.filter_cons_of_neg (by simp), e2]
        exact (List.perm_append_singleton _ _).symm
      · have hx' : x ∈ D.map Prod.fst := by
          rcases List.mem_cons.1 (by simpa using hx : x ∈ d.1 :: D.map Prod.fst) with h1 | h1
          · exact absurd h1.symm hd
          · exact h1
        rw [List.map_cons, if_neg hd, List.filter_cons_of_pos (by simpa using hd)]
        exact (ih h.2 hx').cons d
  · rw [if_neg hx]
    have e2 : D.filter (fun e => decide (e.1 ≠ x)) = D := List.filter_eq_self.2 fun e he => by simpa using fun hee : e.1 = x => hx (hee ▸ List.mem_map_of_mem he)
    rw [e2]
theorem nodup_put {D : List (Key × Tm)} (x : Key) (v : Tm) (h : (D.map Prod.fst).Nodup) : ((putL D x v).map Prod.fst).Nodup := by
  rw [((putL_perm x v h).map Prod.fst).nodup_iff, List.map_append, List.nodup_append]
  refine ⟨h.sublist (List.Sublist.map _ List.filter_sublist), by simp, ?_⟩
  intro a ha b hb
  simp at hb
  obtain ⟨d, hd, rfl⟩ := List.mem_map.1 ha
  rw [hb]
  simpa using (List.mem_filter.1 hd).2
theorem Ord.put {n : Int} {D LT : List (Key × Tm)} (h : Ord n D LT) (x : Key) (a : Int) : Ord (n + 1) (putL D x ⟨a, n + 1⟩) (LT.filter (fun d => decide (d.1 ≠ x)) ++ [(x, ⟨a, n + 1⟩)]) where
  perm := ((h.perm.filter _).append_right _).trans (putL_perm x _ h.nod).symm
  asc := by
    rw [List.pairwise_append]
    refine ⟨h.asc.sublist List.filter_sublist, by simp, ?_⟩
    intro d hd e he
    simp at he
    subst he
    have := h.top d (List.mem_filter.1 hd).1
    show d.2.ord < n + 1
    omega
  top := by
    intro d hd
    rcases List.mem_append.1 hd with hd | hd
    · have := h.top d (List.mem_filter.1 hd).1
      omega
    · simp at hd; subst hd; exact Int.le_refl _
  nod := nodup_put x _ h.nod
theorem view_put (LT : List (Key × Tm)) (x : Key) (a o : Int) : view (LT.filter (fun d => decide (d.1 ≠ x)) ++ [(x, ⟨a, o⟩)]) = set1 a (view LT) x := by
  unfold view set1 cut1
  rw [List.map_append, List.filter_map]
  rfl
theorem Ord.set {n : Int} {D LT : List (Key × Tm)} (h : Ord n D LT) (a : Int) (xs : List Key) : ∃ LT', Ord (n + xs.length) (setS a (D, n) xs).1 LT' ∧ view LT' = setV a (view LT) xs := by
  induction xs generalizing n D LT with
  | nil => exact ⟨LT, by simpa [setS] using h, rfl⟩
  | cons x xs ih =>
    obtain ⟨LT', h1, h2⟩ := ih (h.put x a)
    refine ⟨LT', ?_, ?_⟩
    · rw [List.length_cons, show n + ((xs.length + 1 : Nat) : Int) = n + 1 + xs.length by omega]
      exact h1
    · rw [h2, view_put]
      rfl
theorem Ord.cut {n : Int} {D LT : List (Key × Tm)} (h : Ord n D LT) (xs : List Key) : Ord n (cancelS D xs) (cancelS LT xs) ∧ view (cancelS LT xs) = cutV (view LT) xs := by
  refine ⟨⟨h.perm.filter _, h.asc.sublist List.filter_sublist, fun d hd => h.top d (List.mem_filter.1 hd).1, h.nod.sublist (List.Sublist.map _ List.filter_sublist)⟩, ?_⟩
  unfold view cutV cancelS
  rw [List.filter_map]
  rfl
theorem Ord.len {n : Int} {D LT : List (Key × Tm)} (h : Ord n D LT) : (view LT).length = D.length := by
  unfold view
  rw [List.length_map, h.perm.length_eq]
theorem get_mem {D : List (Key × Tm)} {d : Key × Tm} (hn : (D.map Prod.fst).Nodup) (hd : d ∈ D) : getL D d.1 = some d.2 := lookup_mem hn hd
theorem Ord.get {n : Int} {D LT : List (Key × Tm)} (h : Ord n D LT) (p : Key) : (getL D p).map (·.at_) = getL (view LT) p := by
  by_cases hp : p ∈ D.map Prod.fst
  · obtain ⟨d, hd, rfl⟩ := List.mem_map.1 hp
    rw [get_mem h.nod hd]
    have h1 : ((view LT).map Prod.fst).Nodup := by
      have := h.nodLT
      unfold view
      rw [List.map_map]
      exact this
    have h2 : (d.1, d.2.at_) ∈ view LT := List.mem_map.2 ⟨d, h.perm.mem_iff.2 hd, rfl⟩
    exact (lookup_mem h1 h2).symm
  · rw [lookup_none_of (D := D) (a := p) fun d hd he => hp (he ▸ List.mem_map_of_mem hd)]
    refine (lookup_none_of (D := view LT) fun d hd he => ?_).symm
    obtain ⟨e, he1, rfl⟩ := List.mem_map.1 hd
    exact hp (by rw [← he]; exact List.mem_map_of_mem (h.perm.mem_iff.1 he1))
theorem nextR_fold (xs : List (Key × Int)) : ∀ m : Int, (xs.foldl (fun m y => if y.2 < m then y.2 else m) m ≤ m ∧ (∀ y ∈ xs, xs.foldl (fun m y => if y.2 < m then y.2 else m) m ≤ y.2)) ∧ (xs.foldl (fun m y => if y.2 < m then y.2 else m) m = m ∨ ∃ y ∈ xs, xs.foldl (fun m y => if y.2 < m then y.2 else m) m = y.2) := by
  induction xs with
  | nil => intro m; simp
  | cons x xs ih =>
    intro m
    rw [List.foldl_cons]
    obtain ⟨⟨h1, h2⟩, h3⟩ := ih (if x.2 < m then x.2 else m)
    refine ⟨⟨?_, ?_⟩, ?_⟩
    · split at h1 <;> rename_i hc <;> simp only [hc, if_true, if_false] <;> omega
    · intro y hy
      rcases List.mem_cons.1 hy with rfl | hy
      · refine Int.le_trans h1 ?_
        split <;> omega
      · exact h2 y hy
    · rcases h3 with h3 | ⟨y, hy, h3⟩
      · rw [h3]
        split
        · exact .inr ⟨x, by simp, rfl⟩
        · exact .inl rfl
      · exact .inr ⟨y, by simp [hy], h3⟩
theorem nextR_le {L : List (Key × Int)} {y : Key × Int} (h : y ∈ L) : nextR L ≤ y.2 := by
  cases L with
  | nil => simp at h
  | cons x xs =>
    obtain ⟨⟨h1, h2⟩, h3⟩ := nextR_fold xs x.2
    rcases List.mem_cons.1 h with rfl | h
    · exact h1
    · exact h2 y h
theorem nextR_mem {L : List (Key × Int)} (h : L ≠ []) : ∃ y ∈ L, nextR L = y.2 := by
  cases L with
  | nil => exact absurd rfl h
  | cons x xs =>
    obtain ⟨_, h3⟩ := nextR_fold xs x.2
    rcases h3 with h3 | ⟨y, hy, h3⟩
    · exact ⟨x, by simp, h3⟩
    · exact ⟨y, by simp [hy], h3⟩
/-- Entries in the order in which they are due: the head is the first of the least time. -/
theorem head_least {e : Key × Tm} {es LT : List (Key × Tm)} (hp : (e :: es).Perm LT) (ha : LT.Pairwise fun a b => a.2.ord < b.2.ord) (hs : (e :: es).Pairwise fun a b => ¬ tlt b.2 a.2) :
    nextR (view LT) = e.2.at_ ∧ (view LT).find? (fun d => decide (d.2 = nextR (view LT))) = some (e.1, e.2.at_) := by
  have he : e ∈ LT := hp.mem_iff.1 (by simp)
  have hmin : ∀ x ∈ LT, x = e ∨ ¬ tlt x.2 e.2 := fun x hx => by
    rcases List.mem_cons.1 (hp.mem_iff.2 hx) with h | h
    · exact .inl h
    · exact .inr ((List.pairwise_cons.1 hs).1 x h)
  have h1 : nextR (view LT) = e.2.at_ := by
    have hle : nextR (view LT) ≤ e.2.at_ := nextR_le (List.mem_map.2 ⟨e, he, rfl⟩ : (e.1, e.2.at_) ∈ view LT)
    obtain ⟨y, hy, hy2⟩ := nextR_mem (L := view LT) (fun h => by unfold view at h; simp at h; subst h; simp at he)
    obtain ⟨x, hx, rfl⟩ := List.mem_map.1 hy
    rcases hmin x hx with rfl | h
    · exact hy2
    · unfold tlt at h
      simp only at hy2
      omega
  refine ⟨h1, ?_⟩
  rw [h1, List.find?_eq_some_iff_append]
  refine ⟨by simp, ?_⟩
  obtain ⟨l1, l2, rfl⟩ := List.append_of_mem he
  refine ⟨view l1, view l2, by simp [view], ?_⟩
  intro a ha2
  obtain ⟨x, hx, rfl⟩ := List.mem_map.1 ha2
  have hxe : x.2.ord < e.2.ord := (List.pairwise_append.1 ha).2.2 x hx e (by simp)
  rcases hmin x (by simp [hx]) with h | h
  · rw [h] at hxe; omega
  · unfold tlt at h
    simp only [Bool.not_eq_true', decide_eq_false_iff_not]
    omega
theorem due_is (now : Int) : ∀ (es LT : List (Key × Tm)), es.Perm LT → (LT.Pairwise fun a b => a.2.ord < b.2.ord) → (LT.map Prod.fst).Nodup → (es.Pairwise fun a b => ¬ tlt b.2 a.2) →
    (es.takeWhile fun e => decide (e.2.at_ ≤ now)).map Prod.fst = dueR now es.length (view LT)
  | [], LT, hp, _, _, _ => by rfl
  | e :: es, LT, hp, ha, hn, hs => by
    obtain ⟨h1, h2⟩ := head_least hp ha hs
    have hne : view LT ≠ [] := fun h => by rw [h] at h2; simp at h2
    rw [List.length_cons, dueR]
    by_cases hat : e.2.at_ ≤ now
    · rw [List.takeWhile_cons_of_pos (by simpa using hat), if_neg (by rw [h1]; simp [hne]; omega), h2]
      simp only [List.map_cons]
      congr 1
      have hcut : cut1 (view LT) e.1 = view (LT.filter fun d => decide (d.1 ≠ e.1)) := by
        unfold cut1 view
        rw [List.filter_map]
        rfl
      rw [hcut]
      refine due_is now es _ ?_ (ha.sublist List.filter_sublist) (hn.sublist (List.Sublist.map _ List.filter_sublist)) (List.pairwise_cons.1 hs).2
      have hp2 := hp.filter (fun d => decide (d.1 ≠ e.1))
      rw [List.filter_cons_of_neg (by simp)] at hp2
      refine .trans (.of_eq ?_) hp2
      refine (List.filter_eq_self.2 fun x hx => ?_).symm
      have hn2 := (hp.map Prod.fst).nodup_iff.2 hn
      rw [List.map_cons, List.nodup_cons] at hn2
      simp only [ne_eq, decide_eq_true_eq]
      exact fun hxe => hn2.1 (hxe ▸ List.mem_map_of_mem hx)
    · rw [List.takeWhile_cons_of_neg (by simpa using hat), if_pos (.inr (by omega))]
      rfl
/-- What the sorted names give. -/
theorem Ord.lift {n : Int} {D LT : List (Key × Tm)} (h : Ord n D LT) {ts : List Key} (hp : ts.Perm (D.map Prod.fst)) (hs : ts.Pairwise fun a b => ltOf (cfD D) b a = false) :
    ∃ es : List (Key × Tm), es.Perm LT ∧ es.map Prod.fst = ts ∧ (es.Pairwise fun a b => ¬ tlt b.2 a.2) ∧ ∀ e ∈ es, tm D e.1 = e.2 := by
  obtain ⟨es, h1, h2⟩ := perm_lift (fun e : Key × Tm => e.1) hp D rfl
  have htm : ∀ e ∈ es, tm D e.1 = e.2 := fun e he => by
    unfold tm
    rw [get_mem h.nod (h1.mem_iff.1 he)]
    rfl
  refine ⟨es, h1.trans h.perm.symm, h2, ?_, htm⟩
  rw [← h2, List.pairwise_map] at hs
  refine List.Pairwise.imp_of_mem ?_ hs
  intro a b ha hb hab
  rw [lt_cfD, htm a ha, htm b hb] at hab
  simpa using hab
theorem takeN_map {D : List (Key × Tm)} {now : Int} {es : List (Key × Tm)} (htm : ∀ e ∈ es, tm D e.1 = e.2) : (es.map Prod.fst).take (takeN D now (es.map Prod.fst)) = (es.takeWhile fun e => decide (e.2.at_ ≤ now)).map Prod.fst := by
  unfold takeN
  induction es with
  | nil => rfl
  | cons e es ih =>
    have h0 := htm e (by simp)
    have := ih fun x hx => htm x (by simp [hx])
    by_cases hat : e.2.at_ ≤ now
    · rw [List.map_cons, List.takeWhile_cons_of_pos (by rw [h0]; simpa using hat), List.takeWhile_cons_of_pos (by simpa using hat), List.length_cons, List.take_succ_cons, this, List.map_cons]
    · rw [List.map_cons, List.takeWhile_cons_of_neg (by rw [h0]; simpa using hat), List.takeWhile_cons_of_neg (by simpa using hat)]
      rfl
theorem Ord.due {n : Int} {D LT : List (Key × Tm)} (h : Ord n D LT) (now : Int) {ts : List Key} (hp : ts.Perm (D.map Prod.fst)) (hs : ts.Pairwise fun a b => ltOf (cfD D) b a = false) : ts.take (takeN D now ts) = dueR now (view LT).length (view LT) := by
  obtain ⟨es, h1, rfl, h3, h4⟩ := h.lift hp hs
  rw [takeN_map h4, due_is now es LT h1 h.asc h.nodLT h3, h1.length_eq]
  unfold view
  rw [List.length_map]
theorem Ord.next {n : Int} {D LT : List (Key × Tm)} (h : Ord n D LT) {ts : List Key} (hp : ts.Perm (D.map Prod.fst)) (hs : ts.Pairwise fun a b => ltOf (cfD D) b a = false) : nextV D ts = .tuple #[.int .i64 (nextR (view LT)), .bool (decide (view LT ≠ []))] := by
  obtain ⟨es, h1, rfl, h3, h4⟩ := h.lift hp hs
  cases es with
  | nil =>
    have : LT = [] := h1.nil_eq.symm
    subst this
    rfl
  | cons e es =>
    obtain ⟨h5, _⟩ := head_least h1 h.asc h3
    have hne : view LT ≠ [] := fun hv => by
      have := h1.length_eq
      unfold view at hv
      simp at hv
      subst hv
      simp at this
    rw [List.map_cons, nextV, h4 e (by simp), h5]
    simp [hne]
end Wh
end Go.Proofs.Ytkclpkepmckjgaa
