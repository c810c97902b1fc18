/- What a clock says of each actor; the one clock that says so. -/
import Derived.Test.YtcemlacfldonlaaClkBs
import Derived.Test.YtcemlacfldonlaaClkIns
namespace Go.Proofs.Ytcemlacfldonlaa
open Go.RowKit
namespace Ck
def stepN (a : Nat) (m : Nat) (d : Dot) : Nat := if d.a = a then max m d.n else m
/-- The greatest of an actor's. -/
def getN (l : List Dot) (a : Nat) : Nat := l.foldl (stepN a) 0
theorem getN_snoc (l : List Dot) (d : Dot) (a : Nat) : getN (l ++ [d]) a = stepN a (getN l a) d := by unfold getN; rw [List.foldl_append]; rfl
theorem getN_nil (a : Nat) : getN [] a = 0 := rfl
/-- out is the clock of these dots. -/
structure Canon (out pre : List Dot) : Prop where
  sorted : Sorted out
  says : ∀ d ∈ out, 0 < d.n ∧ d.n = getN pre d.a
  all : ∀ a, 0 < getN pre a → ∃ d ∈ out, d.a = a
theorem Canon.nil : Canon [] [] := ⟨fun i j hi => by simp at hi, by simp, fun a h => by rw [getN_nil] at h; omega⟩
theorem Canon.zero {out pre : List Dot} (h : Canon out pre) {d : Dot} (hd : d.n = 0) : Canon out (pre ++ [d]) := by
  have e : ∀ a, getN (pre ++ [d]) a = getN pre a := fun a => by
    rw [getN_snoc]
    unfold stepN
    split <;> omega
  exact ⟨h.sorted, fun x hx => by rw [e]; exact h.says x hx, fun a ha => by rw [e] at ha; exact h.all a ha⟩
theorem Sorted.inj {l : List Dot} (h : Sorted l) {i j : Nat} (hi : i < l.length) (hj : j < l.length) (e : l[i].a = l[j].a) : i = j := by
  rcases Nat.lt_trichotomy i j with h1 | h1 | h1
  · have := h i j hi hj h1; omega
  · exact h1
  · have := h j i hj hi h1; omega
theorem hasD_some {l : List Dot} {y i : Nat} (h : hasD l y i = true) : ∃ hi : i < l.length, l[i].a = y := by
  unfold hasD at h
  rw [decide_eq_true_eq] at h
  cases hq : l[i]? with
  | none => rw [hq] at h; cases h
  | some x =>
    rw [hq] at h
    obtain ⟨hi, hx⟩ := List.getElem?_eq_some_iff.1 hq
    injection h with h
    exact ⟨hi, by rw [hx]; exact h⟩
theorem hasD_none {l : List Dot} (hs : Sorted l) {y i : Nat} (hA : At l y i) (h : hasD l y i = false) : ∀ d ∈ l, d.a ≠ y := by
  intro d hd e
  obtain ⟨t, ht, rfl⟩ := List.getElem_of_mem hd
  unfold hasD at h
  rw [decide_eq_false_iff_not] at h
  rcases Nat.lt_trichotomy t i with h1 | h1 | h1
  · have := hA.lo t ht h1; omega
  · subst h1
    rw [List.getElem?_eq_getElem ht] at h
    exact h (by rw [← e]; rfl)
  · have h2 := hs i t (by omega) ht h1
    have h3 := hA.hi i (by omega) (Nat.le_refl _)
    omega
theorem Canon.set {out pre : List Dot} (h : Canon out pre) {d : Dot} {i : Nat} (hi : i < out.length) (ha : out[i].a = d.a) : Canon (out.set i ⟨d.a, max out[i].n d.n⟩) (pre ++ [d]) := by
  have hlen : (out.set i ⟨d.a, max out[i].n d.n⟩).length = out.length := by simp
  have hget : ∀ j (hj : j < out.length), (out.set i ⟨d.a, max out[i].n d.n⟩)[j]'(by rw [hlen]; exact hj) = if i = j then ⟨d.a, max out[i].n d.n⟩ else out[j] := fun j hj => List.getElem_set ..
  have hga : ∀ j (hj : j < out.length), ((out.set i ⟨d.a, max out[i].n d.n⟩)[j]'(by rw [hlen]; exact hj)).a = out[j].a := fun j hj => by
    rw [hget j hj]
    split
    · rename_i e; subst e; exact ha.symm
    · rfl
  refine ⟨fun s t hs ht hst => ?_, fun x hx => ?_, fun a hpos => ?_⟩
  · rw [hlen] at hs ht
    rw [hga s hs, hga t ht]
    exact h.sorted s t hs ht hst
  · obtain ⟨j, hj, rfl⟩ := List.getElem_of_mem hx
    rw [hlen] at hj
    rw [hget j hj, getN_snoc]
    split
    · obtain ⟨h1, h2⟩ := h.says _ (List.getElem_mem hi)
      rw [ha] at h2
      unfold stepN
      rw [if_pos rfl]
      simp only
      rw [← h2]
      exact ⟨by omega, rfl⟩
    · rename_i e
      have hne : d.a ≠ out[j].a := fun e2 => e (h.sorted.inj hi hj (ha.trans e2))
      unfold stepN
      rw [if_neg hne]
      exact h.says _ (List.getElem_mem hj)
  · by_cases e : d.a = a
    · exact ⟨_, List.getElem_mem (by rw [hlen]; exact hi), by rw [hga i hi, ha, e]⟩
    · rw [getN_snoc] at hpos
      unfold stepN at hpos
      rw [if_neg e] at hpos
      obtain ⟨x, hx, hxa⟩ := h.all a hpos
      obtain ⟨j, hj, rfl⟩ := List.getElem_of_mem hx
      exact ⟨_, List.getElem_mem (by rw [hlen]; exact hj), by rw [hga j hj, hxa]⟩
theorem insD_mem {l : List Dot} {i : Nat} {d x : Dot} : x ∈ insD l i d ↔ x = d ∨ x ∈ l := by
  unfold insD
  rw [List.mem_append, List.mem_cons]
  conv => rhs; rw [← List.take_append_drop i l, List.mem_append]
  constructor
  · rintro (h | h | h)
    · exact .inr (.inl h)
    · exact .inl h
    · exact .inr (.inr h)
  · rintro (h | h | h)
    · exact .inr (.inl h)
    · exact .inl h
    · exact .inr (.inr h)
theorem Sorted.pair {l : List Dot} (h : Sorted l) : l.Pairwise fun x y => x.a < y.a := List.pairwise_iff_getElem.2 fun i j hi hj hij => h i j hi hj hij
theorem Sorted.of {l : List Dot} (h : l.Pairwise fun x y => x.a < y.a) : Sorted l := fun i j hi hj hij => List.pairwise_iff_getElem.1 h i j hi hj hij
theorem insD_sorted {l : List Dot} {i : Nat} {d : Dot} (hs : Sorted l) (hA : At l d.a i) (hn : ∀ x ∈ l, x.a ≠ d.a) : Sorted (insD l i d) := by
  have hp := hs.pair
  rw [← List.take_append_drop i l, List.pairwise_append] at hp
  obtain ⟨h1, h2, h3⟩ := hp
  refine Sorted.of ?_
  unfold insD
  rw [List.pairwise_append, List.pairwise_cons]
  refine ⟨h1, ⟨fun y hy => ?_, h2⟩, fun x hx y hy => ?_⟩
  · obtain ⟨t, ht, rfl⟩ := List.getElem_of_mem hy
    rw [List.getElem_drop]
    rw [List.length_drop] at ht
    have := hA.hi (i + t) (by omega) (by omega)
    have := hn _ (List.getElem_mem (show i + t < l.length by omega))
    omega
  · rcases List.mem_cons.1 hy with rfl | hy
    · obtain ⟨t, ht, rfl⟩ := List.getElem_of_mem hx
      rw [List.getElem_take]
      rw [List.length_take] at ht
      exact hA.lo t (by omega) (by omega)
    · exact h3 x hx y hy
theorem Canon.ins {out pre : List Dot} (h : Canon out pre) {d : Dot} (hd : d.n ≠ 0) {i : Nat} (hA : At out d.a i) (hh : hasD out d.a i = false) : Canon (insD out i d) (pre ++ [d]) := by
  have hno := hasD_none h.sorted hA hh
  have h0 : getN pre d.a = 0 := by
    rcases Nat.eq_zero_or_pos (getN pre d.a) with h1 | h1
    · exact h1
    · obtain ⟨x, hx, hxa⟩ := h.all _ h1
      exact absurd hxa (hno x hx)
  refine ⟨insD_sorted h.sorted hA hno, fun x hx => ?_, fun a hpos => ?_⟩
  · rw [getN_snoc]
    unfold stepN
    rcases insD_mem.1 hx with rfl | hx
    · rw [if_pos rfl, h0]
      omega
    · rw [if_neg (fun e => hno x hx e.symm)]
      exact h.says x hx
  · by_cases e : d.a = a
    · exact ⟨d, insD_mem.2 (.inl rfl), e⟩
    · rw [getN_snoc] at hpos
      unfold stepN at hpos
      rw [if_neg e] at hpos
      obtain ⟨x, hx, hxa⟩ := h.all a hpos
      exact ⟨x, insD_mem.2 (.inr hx), hxa⟩
/-- There is but one. -/
theorem sorted_ext {l r : List Dot} (hl : l.Pairwise fun x y => x.a < y.a) (hr : r.Pairwise fun x y => x.a < y.a) (h : ∀ x, x ∈ l ↔ x ∈ r) : l = r := by
  induction l generalizing r with
  | nil =>
    cases r with
    | nil => rfl
    | cons y r => exact absurd ((h y).2 (by simp)) (by simp)
  | cons x l ih =>
    cases r with
    | nil => exact absurd ((h x).1 (by simp)) (by simp)
    | cons y r =>
      rw [List.pairwise_cons] at hl hr
      have e : x = y := by
        rcases List.mem_cons.1 ((h x).1 (by simp)) with e | hx
        · exact e
        · rcases List.mem_cons.1 ((h y).2 (by simp)) with e | hy
          · exact e.symm
          · have := hl.1 y hy
            have := hr.1 x hx
            omega
      subst e
      rw [ih hl.2 hr.2 fun z => ?_]
      constructor
      · intro hz
        rcases List.mem_cons.1 ((h z).1 (by simp [hz])) with e | h1
        · subst e; have := hl.1 z hz; omega
        · exact h1
      · intro hz
        rcases List.mem_cons.1 ((h z).2 (by simp [hz])) with e | h1
        · subst e; have := hr.1 z hz; omega
        · exact h1
theorem Canon.mem {out pre : List Dot} (h : Canon out pre) (x : Dot) : x ∈ out ↔ 0 < x.n ∧ x.n = getN pre x.a := by
  constructor
  · exact h.says x
  · rintro ⟨h1, h2⟩
    obtain ⟨y, hy, hya⟩ := h.all x.a (by omega)
    obtain ⟨_, h3⟩ := h.says y hy
    have : x = y := by
      obtain ⟨xa, xn⟩ := x
      obtain ⟨ya, yn⟩ := y
      simp only at h2 h3 hya ⊢
      subst hya
      rw [h2, h3]
    rw [this]
    exact hy
theorem Canon.ext {o1 o2 p1 p2 : List Dot} (h1 : Canon o1 p1) (h2 : Canon o2 p2) (h : ∀ a, getN p1 a = getN p2 a) : o1 = o2 :=
  sorted_ext h1.sorted.pair h2.sorted.pair fun x => by rw [h1.mem, h2.mem, h]
end Ck
end Go.Proofs.Ytcemlacfldonlaa
