/- Compare, Same, Add. -/
import Derived.Test.YtaglginhaofgeaaClkComp
namespace Go.Proofs.Ytaglginhaofgeaa
open Go.RowKit Go.Shelf
open Ck
namespace Ck
theorem getN_cons (d : Dot) (l : List Dot) (a : Nat) : getN (d :: l) a = max (if d.a = a then d.n else 0) (getN l a) := by
  have key : ∀ (l : List Dot) (m : Nat), l.foldl (stepN a) m = max m (l.foldl (stepN a) 0) := by
    intro l
    induction l with
    | nil => intro m; simp
    | cons x l ih =>
      intro m
      simp only [List.foldl_cons]
      rw [ih, ih (stepN a 0 x)]
      unfold stepN
      split <;> omega
  unfold getN
  rw [List.foldl_cons, key]
  unfold stepN
  split <;> simp
theorem getN_append (l r : List Dot) (a : Nat) : getN (l ++ r) a = max (getN l a) (getN r a) := by
  induction l with
  | nil => simp [getN_nil]
  | cons x l ih => rw [List.cons_append, getN_cons, getN_cons, ih]; omega
theorem getN_le {l : List Dot} {a m : Nat} : getN l a ≤ m ↔ ∀ d ∈ l, d.a = a → d.n ≤ m := by
  induction l with
  | nil => simp [getN_nil]
  | cons x l ih =>
    rw [getN_cons]
    constructor
    · intro h d hd e
      rcases List.mem_cons.1 hd with rfl | hd
      · rw [if_pos e] at h; omega
      · exact ih.1 (by omega) d hd e
    · intro h
      have h1 := ih.2 fun d hd => h d (List.mem_cons_of_mem _ hd)
      have h2 := h x List.mem_cons_self
      split
      · rename_i e; have := h2 e; omega
      · omega
theorem getN_ge {l : List Dot} {d : Dot} (h : d ∈ l) : d.n ≤ getN l d.a := getN_le.1 (Nat.le_refl _) d h rfl
theorem getN_ex (l : List Dot) (a : Nat) : getN l a = 0 ∨ ∃ d ∈ l, d.a = a ∧ d.n = getN l a := by
  induction l with
  | nil => exact .inl rfl
  | cons x l ih =>
    rw [getN_cons]
    by_cases e : x.a = a
    · rw [if_pos e]
      by_cases hge : getN l a ≤ x.n
      · exact .inr ⟨x, List.mem_cons_self, e, by omega⟩
      · rcases ih with h | ⟨d, hd, h1, h2⟩
        · omega
        · exact .inr ⟨d, List.mem_cons_of_mem _ hd, h1, by omega⟩
    · rw [if_neg e]
      rcases ih with h | ⟨d, hd, h1, h2⟩
      · exact .inl (by omega)
      · exact .inr ⟨d, List.mem_cons_of_mem _ hd, h1, by omega⟩
theorem Canon.get {out pre : List Dot} (h : Canon out pre) (a : Nat) : getN out a = getN pre a := by
  apply Nat.le_antisymm
  · rw [getN_le]
    intro d hd e
    rw [(h.says d hd).2, e]; exact Nat.le_refl _
  · rcases getN_ex pre a with h0 | ⟨d, hd, h1, h2⟩
    · omega
    · rcases Nat.eq_zero_or_pos (getN pre a) with h0 | h0
      · omega
      · obtain ⟨x, hx, hxa⟩ := h.all a h0
        have h3 := (h.says x hx).2
        have h4 := getN_ge hx
        rw [hxa] at h3 h4
        omega
/-- What a canonical clock stands for. -/
def withinR (A B : List Dot) : Bool := A.all fun d => decide (d.n ≤ getN B d.a)
theorem withinR_iff {A B : List Dot} : withinR A B = true ↔ ∀ a, getN A a ≤ getN B a := by
  unfold withinR
  rw [List.all_eq_true]
  constructor
  · intro h a
    rw [getN_le]
    intro d hd e
    have := h d hd
    rw [decide_eq_true_eq, e] at this
    exact this
  · intro h d hd
    rw [decide_eq_true_eq]
    exact Nat.le_trans (getN_ge hd) (h d.a)
theorem withinB_eq {oA oB A B : List Dot} (hA : Canon oA A) (hB : Canon oB B) : withinB oA oB = withinR A B := by
  rw [Bool.eq_iff_iff, withinR_iff]
  unfold withinB coversB
  rw [List.all_eq_true]
  constructor
  · intro h a
    rcases Nat.eq_zero_or_pos (getN A a) with h0 | h0
    · omega
    · obtain ⟨x, hx, rfl⟩ := hA.all a h0
      have h1 := h x hx
      have h2 := (hA.says x hx).2
      simp only [Bool.and_eq_true, decide_eq_true_eq, hB.get] at h1
      omega
  · intro h d hd
    have h1 := hA.says d hd
    have h2 := h d.a
    simp only [Bool.and_eq_true, decide_eq_true_eq, hB.get]
    omega
def cmpC (A B : List Dot) : Int := if withinR A B then (if withinR B A then 0 else -1) else if withinR B A then 1 else 2
end Ck
set_option maxHeartbeats 1000000 in
theorem compare_any (w : World) (u v : Value) (xs ys : List Dot) (hxs : xs.length ≤ 8796093022208) (hys : ys.length ≤ 8796093022208) (hu : ClkIn w u xs) (hv : ClkIn w v ys) :
    Calls Try.prog 15 #[u, v] w fun e w' => e = .returned (.int .i64 (cmpC xs ys)) ∧ Fr w.heap.size [] w w' := by
  have hn1 := norm_any w u xs hxs hu
  obtain ⟨A, c, rfl, hA⟩ := hu
  have hv0 := hv
  obtain ⟨A2, c2, rfl, hA2⟩ := hv
  have hn2 : ∀ w1, Fr w.heap.size [] w w1 → Calls Try.prog 13 #[.slice A2 ys.length c2] w1 _ := fun w1 f1 => norm_any w1 _ ys hys (clkIn_fr hv0 f1)
  have hw3 : ∀ (w2 : World) (o1 o2 : List Dot) (v1 v2 : Value), o1.length ≤ 8796093022208 → o2.length ≤ 8796093022208 → ClkIn w2 v1 o1 → ClkIn w2 v2 o2 → Calls Try.prog 43 #[v1, v2] w2 _ := fun w2 o1 o2 v1 v2 h1 h2 h3 h4 => within_any w2 v1 v2 o1 o2 h1 h2 h3 h4
  obtain ⟨p, hp⟩ : ∃ p, withinR xs ys = p := ⟨_, rfl⟩
  obtain ⟨q, hq⟩ : ∃ q, withinR ys xs = q := ⟨_, rfl⟩
  unfold cmpC
  rw [hp, hq]
  cases p <;> cases q
  all_goals go_enter Try.func15, Try.ntmps15
  all_goals go_wp2_with (first
    | (go_at_call 13; (refine (hn2 _ f1).mono ?_)
       rintro e w2 ⟨⟨v2, o2, rfl, k1, k2, k3⟩, f2⟩; obtain ⟨A3, c3, rfl⟩ := own_len1 k1
       have ci1 := clkIn_fr (clkIn_own g1) f2
       have ci2 := clkIn_own k1
       have hF2 := f1.trans (f2.mono f1.size (by simp))
       have e1 := withinB_eq g2 k2
       have e2 := withinB_eq k2 g2
       rw [hp] at e1; rw [hq] at e2)
    | (go_at_call 13; (refine hn1.mono ?_); rintro e w1 ⟨⟨v1, o1, rfl, g1, g2, g3⟩, f1⟩; obtain ⟨A1, c1, rfl⟩ := own_len1 g1)
    | (go_at_call 43; (refine (hw3 _ o2 o1 _ _ (by omega) (by omega) (clkIn_fr ci2 f3) (clkIn_fr ci1 f3)).mono ?_)
       rw [e2]
       rintro e w4 ⟨rfl, f4⟩
       have hF4 := hF2.trans ((f3.trans (f4.mono f3.size (by simp))).mono hF2.size (by simp))
       clear f1 f2 f3 f4 g1 k1 ci1 ci2 hF2)
    | (go_at_call 43; (refine (hw3 _ o1 o2 _ _ (by omega) (by omega) ci1 ci2).mono ?_)
       rw [e1]
       rintro e w3 ⟨rfl, f3⟩))
  all_goals (go_ret; exact ⟨rfl, by assumption⟩)
set_option maxHeartbeats 1000000 in
theorem same_any (w : World) (u v : Value) (xs ys : List Dot) (hxs : xs.length ≤ 8796093022208) (hys : ys.length ≤ 8796093022208) (hu : ClkIn w u xs) (hv : ClkIn w v ys) :
    Calls Try.prog 30 #[u, v] w fun e w' => e = .returned (.bool (withinR xs ys && withinR ys xs)) ∧ Fr w.heap.size [] w w' := by
  have hc := compare_any w u v xs ys hxs hys hu hv
  obtain ⟨A, c, rfl, hA⟩ := hu
  obtain ⟨A2, c2, rfl, hA2⟩ := hv
  have he : (withinR xs ys && withinR ys xs) = decide (cmpC xs ys = 0) := by
    unfold cmpC
    cases withinR xs ys <;> cases withinR ys xs <;> simp
  rw [he]
  obtain ⟨p, hp⟩ : ∃ p, cmpC xs ys = p := ⟨_, rfl⟩
  rw [hp] at hc ⊢
  go_enter Try.func30, Try.ntmps30
  go_wp2_with (go_at_call 15; (refine hc.mono ?_); rintro e w1 ⟨rfl, f1⟩)
  go_ret
  exact ⟨rfl, f1⟩
set_option maxHeartbeats 1000000 in
theorem add_any (w : World) (u v : Value) (xs ys : List Dot) (hxy : xs.length + ys.length ≤ 8796093022208) (hu : ClkIn w u xs) (hv : ClkIn w v ys) :
    Calls Try.prog 23 #[u, v] w fun e w' => (∃ v' out, e = .returned v' ∧ w'.ownsRow w.heap.size 27 2 v' out.length (out.flatMap Dot.cells) ∧ Canon out (xs ++ ys) ∧ out.length ≤ xs.length + ys.length) ∧ Fr w.heap.size [] w w' := by
  have hC := clks_new (w := w) (vs := [u, v]) (L := [xs, ys]) rfl (fun j x es hx he => by
    cases j with
    | zero => simp at hx he; subst hx he; exact hu
    | succ j =>
      cases j with
      | zero => simp at hx he; subst hx he; exact hv
      | succ j => simp at hx)
  have hm := merge_any _ _ _ _ [xs, ys] (by simp) (by simp; omega) (by simp; omega) hC
  obtain ⟨A, c, rfl, _⟩ := hu
  obtain ⟨A2, c2, rfl, _⟩ := hv
  have hF := (Fr.refl w.heap.size [] w).alloc (Nat.le_refl _) (.cells #[.slice A xs.length c, .slice A2 ys.length c2] 23)
  go_enter Try.func23, Try.ntmps23
  go_wp2_with (go_at_call 12; (refine hm.mono ?_); rintro e w1 ⟨⟨v', out, rfl, h1, h2, h3⟩, f1⟩; obtain ⟨A1, c1, rfl⟩ := own_len1 h1)
  go_ret
  exact ⟨⟨_, out, rfl, row_base h1 (by simp), by simpa using h2, by simpa using h3⟩, hF.trans (f1.mono hF.size (by simp))⟩
end Go.Proofs.Ytaglginhaofgeaa
