/- QuorumStays: plain. -/
import Derived.Test.YtcemlacfldonlaaQuoAwake
namespace Go.Proofs.Ytcemlacfldonlaa
open Go.RowKit
/-- What a list of answers (what, node) says of a node: the first of them. -/
def ansP : List (Int × Int) → Int → Int
  | [], _ => 0
  | p :: ps, n => if p.2 = n then p.1 else ansP ps n
/-- The targets behind these answers. -/
def LSt (L : List Tg) (ps : List (Int × Int)) : List Tg := L.map fun x => { x with said := ansP ps x.node }
theorem lst_len (L : List Tg) (ps : List (Int × Int)) : (LSt L ps).length = L.length := by simp [LSt]
theorem lst_nod {L : List Tg} (h : (L.map Tg.node).Nodup) (ps : List (Int × Int)) : ((LSt L ps).map Tg.node).Nodup := by
  have : (LSt L ps).map Tg.node = L.map Tg.node := by simp [LSt, Function.comp_def]
  rw [this]; exact h
theorem ans_snoc (what n : Int) : ∀ (ps : List (Int × Int)), (∀ p ∈ ps, p.1 ≠ 0) → ∀ m, ansP (ps ++ [(what, n)]) m = if n = m ∧ ansP ps m = 0 then what else ansP ps m
  | [], _, m => by by_cases e : n = m <;> simp [ansP, e]
  | p :: ps, h, m => by
    by_cases e : p.2 = m
    · have h1 : ansP (p :: ps) m = p.1 := if_pos e
      have h2 : ansP (p :: (ps ++ [(what, n)])) m = p.1 := if_pos e
      have h3 := h p (by simp)
      simp [h1, h2, h3]
    · have h1 : ansP (p :: ps) m = ansP ps m := if_neg e
      have h2 : ansP (p :: (ps ++ [(what, n)])) m = ansP (ps ++ [(what, n)]) m := if_neg e
      rw [List.cons_append, h2, h1]
      exact ans_snoc what n ps (fun q hq => h q (by simp [hq])) m
theorem say_lst (L : List Tg) (what n : Int) (ps : List (Int × Int)) (h : ∀ p ∈ ps, p.1 ≠ 0) : sayL what n (LSt L ps) = LSt L (ps ++ [(what, n)]) := by
  unfold sayL LSt
  rw [List.map_map]
  apply List.map_congr_left
  intro x hx
  simp only [Function.comp_def, newB, ans_snoc what n ps h, Bool.and_eq_true, decide_eq_true_eq]
  by_cases e : x.node = n
  · subst e
    by_cases e2 : ansP ps x.node = 0 <;> simp [e2]
  · have e3 : ¬ n = x.node := fun h => e h.symm
    simp [e, e3]
theorem lst_nil {L : List Tg} (h : ∀ x ∈ L, x.said = 0) : LSt L [] = L := by
  unfold LSt
  conv => rhs; rw [← List.map_id L]
  apply List.map_congr_left
  intro x hx
  simp only [ansP, id]
  rw [← h x hx]
/-- Counting under one answer more. -/
theorem cnt_say (p : Tg → Bool) (hp : ∀ x : Tg, ∀ s, p { x with said := s } = p x) (what n : Int) (hw : what ≠ 0) (a : Int) : ∀ L : List Tg,
    (a = 0 → (sayL what n L).countP (fun x => decide (x.said = a) && p x) ≤ L.countP (fun x => decide (x.said = a) && p x)) ∧
    (a ≠ 0 → L.countP (fun x => decide (x.said = a) && p x) ≤ (sayL what n L).countP (fun x => decide (x.said = a) && p x)) ∧
    ((sayL what n L).countP (fun x => (decide (x.said = 1) || decide (x.said = 0)) && p x) ≤ L.countP (fun x => (decide (x.said = 1) || decide (x.said = 0)) && p x))
  | [] => by simp [sayL]
  | x :: L => by
    obtain ⟨h1, h2, h3⟩ := cnt_say p hp what n hw a L
    have hs : sayL what n (x :: L) = (if newB n x = true then { x with said := what } else x) :: sayL what n L := rfl
    rw [hs]
    simp only [List.countP_cons]
    by_cases hb : newB n x = true
    · rw [if_pos hb]
      simp only [newB, Bool.and_eq_true, decide_eq_true_eq] at hb
      simp only [hp]
      refine ⟨fun e => ?_, fun e => ?_, ?_⟩
      · have := h1 e
        subst e
        simp [hw]
        omega
      · have := h2 e
        have e2 : ¬ (0 : Int) = a := fun h => e h.symm
        simp only [hb.2]
        simp [e2]
        omega
      · cases hpx : p x
        · simp; omega
        · simp only [hb.2]; simp
          by_cases e1 : what = 1
          · subst e1; simp; omega
          · simp [e1, hw]; omega
    · rw [if_neg hb]
      exact ⟨fun e => by have := h1 e; omega, fun e => by have := h2 e; omega, by omega⟩
theorem cnt_two (p : Tg → Bool) : ∀ L : List Tg, L.countP (fun x => decide (x.said = 1) && p x) + L.countP (fun x => decide (x.said = 0) && p x) = L.countP (fun x => (decide (x.said = 1) || decide (x.said = 0)) && p x)
  | [] => rfl
  | x :: L => by
    have ih := cnt_two p L
    simp only [List.countP_cons]
    cases p x
    · simp; omega
    · by_cases e1 : x.said = 1
      · simp [e1]; omega
      · by_cases e0 : x.said = 0 <;> simp [e1, e0] <;> omega
theorem cntN_eq (a : Int) (L : List Tg) : cntN a L = L.countP (fun x => decide (x.said = a) && true) := by
  unfold cntN
  rw [← List.countP_eq_length_filter]
  congr 1
  funext x
  simp [cntB]
theorem cnpN_eq (a : Int) (L : List Tg) : cnpN a L = L.countP (fun x => decide (x.said = a) && decide (x.node = x.home)) := by
  unfold cnpN
  rw [← List.countP_eq_length_filter]
  congr 1
theorem verd_stays {need prime what n : Int} {L : List Tg} (hw : what ≠ 0) (h : verdN need prime L ≠ 0) : verdN need prime (sayL what n L) = verdN need prime L := by
  have a1 := (cnt_say (fun _ => true) (fun _ _ => rfl) what n hw 1 L).2.1 (by decide)
  have a3 := (cnt_say (fun _ => true) (fun _ _ => rfl) what n hw 1 L).2.2
  have b1 := (cnt_say (fun x => decide (x.node = x.home)) (fun _ _ => rfl) what n hw 1 L).2.1 (by decide)
  have b3 := (cnt_say (fun x => decide (x.node = x.home)) (fun _ _ => rfl) what n hw 1 L).2.2
  rw [← cnt_two, ← cnt_two] at a3 b3
  rw [← cntN_eq, ← cntN_eq] at a1
  rw [← cntN_eq, ← cntN_eq, ← cntN_eq, ← cntN_eq] at a3
  rw [← cnpN_eq, ← cnpN_eq] at b1
  rw [← cnpN_eq, ← cnpN_eq, ← cnpN_eq, ← cnpN_eq] at b3
  unfold verdN at h ⊢
  by_cases c1 : need ≤ cntN 1 L ∧ prime ≤ cnpN 1 L
  · rw [if_pos c1, if_pos ⟨by omega, by omega⟩]
  · rw [if_neg c1] at h ⊢
    by_cases c2 : (cntN 1 L : Int) + cntN 0 L < need ∨ (cnpN 1 L : Int) + cnpN 0 L < prime
    · rw [if_pos c2, if_neg, if_pos]
      · rcases c2 with c2 | c2
        · exact .inl (by omega)
        · exact .inr (by omega)
      · rintro ⟨d1, d2⟩
        rcases c2 with c2 | c2 <;> omega
    · rw [if_neg c2] at h
      exact absurd rfl h
/-- Of each node its first answer. -/
def hasN {α : Type} (key : α → Int) (fs : List α) (n : Int) : Bool := fs.any fun f => decide (key f = n)
def firsts {α : Type} (key : α → Int) (l : List α) : List α := l.foldl (fun fs x => if hasN key fs (key x) = true then fs else fs ++ [x]) []
theorem firsts_snoc {α : Type} (key : α → Int) (l : List α) (x : α) : firsts key (l ++ [x]) = if hasN key (firsts key l) (key x) = true then firsts key l else firsts key l ++ [x] := by
  unfold firsts
  rw [List.foldl_append]
  rfl
theorem ans_none {ps : List (Int × Int)} {n : Int} (h : ∀ p ∈ ps, p.2 ≠ n) : ansP ps n = 0 := by
  induction ps with
  | nil => rfl
  | cons p ps ih => rw [ansP, if_neg (h p (by simp))]; exact ih fun q hq => h q (by simp [hq])
theorem ans_app (ps qs : List (Int × Int)) (n : Int) : ansP (ps ++ qs) n = if hasN Prod.snd ps n = true then ansP ps n else ansP qs n := by
  induction ps with
  | nil => simp [hasN]
  | cons p ps ih =>
    simp only [List.cons_append, ansP]
    by_cases e : p.2 = n
    · rw [if_pos e, if_pos e, if_pos (by simp [hasN, e])]
    · rw [if_neg e, if_neg e, ih]
      have : hasN Prod.snd (p :: ps) n = hasN Prod.snd ps n := by simp [hasN, e]
      rw [this]
theorem hasN_map {α : Type} (key : α → Int) (pr : α → Int × Int) (h : ∀ x, (pr x).2 = key x) (l : List α) (n : Int) : hasN Prod.snd (l.map pr) n = hasN key l n := by
  unfold hasN
  rw [List.any_map]
  congr 1
  funext x
  simp [h]
theorem has_firsts {α : Type} (key : α → Int) (l : List α) (n : Int) : hasN key (firsts key l) n = hasN key l n := by
  have hind : ∀ (l : List α) (fs : List α), hasN key (l.foldl (fun fs x => if hasN key fs (key x) = true then fs else fs ++ [x]) fs) n = (hasN key fs n || hasN key l n) := by
    intro l
    induction l with
    | nil => intro fs; simp [hasN]
    | cons x l ih =>
      intro fs
      rw [List.foldl_cons, ih]
      have e2 : hasN key (x :: l) n = (decide (key x = n) || hasN key l n) := rfl
      rw [e2]
      by_cases c : hasN key fs (key x) = true
      · rw [if_pos c]
        by_cases e : key x = n
        · subst e; rw [c]; simp
        · simp [e]
      · rw [if_neg c]
        have : hasN key (fs ++ [x]) n = (hasN key fs n || decide (key x = n)) := by simp [hasN]
        rw [this, Bool.or_assoc]
  rw [firsts, hind l []]
  simp [hasN]
theorem ans_firsts {α : Type} (key : α → Int) (pr : α → Int × Int) (h : ∀ x, (pr x).2 = key x) (l : List α) (n : Int) : ansP ((firsts key l).map pr) n = ansP (l.map pr) n := by
  have hind : ∀ (l : List α) (fs : List α), ansP ((l.foldl (fun fs x => if hasN key fs (key x) = true then fs else fs ++ [x]) fs).map pr) n = ansP ((fs ++ l).map pr) n := by
    intro l
    induction l with
    | nil => intro fs; simp
    | cons x l ih =>
      intro fs
      rw [List.foldl_cons, ih]
      by_cases c : hasN key fs (key x) = true
      · rw [if_pos c, List.map_append, List.map_append, ans_app, ans_app, hasN_map key pr h]
        by_cases c2 : hasN key fs n = true
        · rw [if_pos c2, if_pos c2]
        · rw [if_neg c2, if_neg c2, List.map_cons, ansP, if_neg]
          rw [h]
          intro e
          rw [e] at c
          exact c2 c
      · rw [if_neg c, List.append_assoc]
        rfl
  have := hind l []
  rw [List.nil_append] at this
  exact this
theorem firsts_nod {α : Type} (key : α → Int) (l : List α) : ((firsts key l).map key).Nodup := by
  have hind : ∀ (l : List α) (fs : List α), (fs.map key).Nodup → ((l.foldl (fun fs x => if hasN key fs (key x) = true then fs else fs ++ [x]) fs).map key).Nodup := by
    intro l
    induction l with
    | nil => intro fs h; exact h
    | cons x l ih =>
      intro fs h
      rw [List.foldl_cons]
      apply ih
      by_cases c : hasN key fs (key x) = true
      · rw [if_pos c]; exact h
      · rw [if_neg c, List.map_append, List.nodup_append]
        refine ⟨h, by simp, ?_⟩
        intro a ha b hb e
        simp only [List.map_cons, List.map_nil, List.mem_cons, List.not_mem_nil, or_false] at hb
        obtain ⟨f, hf, rfl⟩ := List.mem_map.1 ha
        apply c
        exact List.any_eq_true.2 ⟨f, hf, by rw [decide_eq_true_eq, e, hb]⟩
  exact hind l [] (by simp)
theorem ans_rev {ps : List (Int × Int)} (h : (ps.map Prod.snd).Nodup) (n : Int) : ansP ps.reverse n = ansP ps n := by
  induction ps with
  | nil => rfl
  | cons p ps ih =>
    simp only [List.map_cons, List.nodup_cons] at h
    rw [List.reverse_cons, ans_app, ansP]
    have hh : hasN Prod.snd ps.reverse n = hasN Prod.snd ps n := by
      unfold hasN; rw [List.any_reverse]
    rw [hh, ih h.2]
    by_cases e : p.2 = n
    · rw [if_pos e, if_neg]
      · simp [ansP, e]
      · intro c
        obtain ⟨q, hq, e2⟩ := List.any_eq_true.1 c
        exact h.1 (List.mem_map.2 ⟨q, hq, by rw [of_decide_eq_true e2, e]⟩)
    · rw [if_neg e]
      by_cases c : hasN Prod.snd ps n = true
      · rw [if_pos c]; exact (if_neg e).symm
      · rw [if_neg c]
        simp only [ansP, if_neg e]
        symm
        exact ans_none fun q hq e2 => c (List.any_eq_true.2 ⟨q, hq, by rw [decide_eq_true_eq]; exact e2⟩)
/-- The order changes nothing. -/
theorem lst_order {α : Type} (key : α → Int) (pr : α → Int × Int) (h : ∀ x, (pr x).2 = key x) (L : List Tg) (l : List α) : LSt L ((firsts key l).map pr).reverse = LSt L (l.map pr) := by
  have hn : (((firsts key l).map pr).map Prod.snd).Nodup := by
    have : ((firsts key l).map pr).map Prod.snd = (firsts key l).map key := by
      rw [List.map_map]; apply List.map_congr_left; intro x _; exact h x
    rw [this]; exact firsts_nod key l
  unfold LSt
  apply List.map_congr_left
  intro x hx
  rw [ans_rev hn, ans_firsts key pr h]
end Go.Proofs.Ytcemlacfldonlaa
