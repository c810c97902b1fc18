/- FilesFull: the plain law. -/
import Derived.Test.YtcfbbembggnanaaFilNames
import Derived.Test.YtcfbbembggnanaaFilOpens
namespace Go.Proofs.Ytcfbbembggnanaa
open Go.RowKit Go.Maps
def kc : Key := ⟨[99], by decide⟩
theorem used_cons (d : Key × Fl) (P : FP) : usedP (d :: P) = d.2.bs.length + usedP P := by simp [usedP]
theorem used_append (P Q : FP) : usedP (P ++ Q) = usedP P + usedP Q := by simp [usedP]
theorem used_map_ne {P : FP} {x : Key} {dl : List UInt8} (h : x ∉ P.map Prod.fst) : (P.map fun d => if d.1 = x then (x, (⟨d.2.bs ++ dl, d.2.firm⟩ : Fl)) else d) = P := by
  induction P with
  | nil => rfl
  | cons d P ih =>
    rw [List.map_cons, List.mem_cons, not_or] at h
    rw [List.map_cons, ih h.2, if_neg (fun e => h.1 e.symm)]
theorem used_app {P : FP} (hn : (P.map Prod.fst).Nodup) (x : Key) (dl : List UInt8) : usedP (appP P x dl) = usedP P + dl.length := by
  unfold appP
  split
  · rename_i h
    induction P with
    | nil => simp at h
    | cons d P ih =>
      rw [List.map_cons, List.nodup_cons] at hn
      rw [List.map_cons, used_cons, used_cons]
      by_cases e : d.1 = x
      · rw [if_pos e, used_map_ne (e ▸ hn.1)]
        simp only [List.length_append]
        omega
      · rw [if_neg e]
        have := ih hn.2 (by rw [List.map_cons, List.mem_cons] at h; rcases h with h | h; exact absurd h.symm e; exact h)
        omega
  · rw [used_append]
    simp [usedP]
theorem app_keys {P : FP} {x : Key} {dl : List UInt8} {d : Key × Fl} (h : d ∈ appP P x dl) : d.1 = x ∨ ∃ d0 ∈ P, d0.1 = d.1 := by
  unfold appP at h
  split at h
  · obtain ⟨d0, h0, rfl⟩ := List.mem_map.1 h
    by_cases e : d0.1 = x
    · rw [if_pos e]; exact .inl rfl
    · rw [if_neg e]; exact .inr ⟨d0, h0, rfl⟩
  · rcases List.mem_append.1 h with h | h
    · exact .inr ⟨d, h, rfl⟩
    · simp at h; exact .inl (by rw [h])
theorem three {α : Type} {l : List α} (hn : l.Nodup) {x y z : α} (h : ∀ a ∈ l, a = x ∨ a = y ∨ a = z) : l.length ≤ 3 := by
  match l, hn, h with
  | [], _, _ => simp
  | [_], _, _ => simp
  | [_, _], _, _ => simp
  | [_, _, _], _, _ => simp
  | a :: b :: c :: d :: t, hn, h =>
    exfalso
    have ha := h a (by simp)
    have hb := h b (by simp)
    have hc := h c (by simp)
    have hd := h d (by simp)
    simp only [List.nodup_cons, List.mem_cons, not_or] at hn
    obtain ⟨⟨h1, h2, h3, -⟩, ⟨h4, h5, -⟩, ⟨h6, -⟩, -⟩ := hn
    rcases ha with rfl | rfl | rfl <;> rcases hb with rfl | rfl | rfl <;> rcases hc with rfl | rfl | rfl <;> first | (exact absurd rfl h1) | (exact absurd rfl h2) | (exact absurd rfl h4) | (rcases hd with rfl | rfl | rfl <;> first | (exact absurd rfl h3) | (exact absurd rfl h5) | (exact absurd rfl h6))
/-- Between two rounds. -/
structure FullSt (R : Int) (k : Nat) (S : FS) : Prop where
  room : S.room = R
  left : S.left = 0
  on : S.on = true
  steps : 0 ≤ S.steps ∧ S.steps ≤ k
  used : (usedP S.P : Int) ≤ R
  keys : ∀ d ∈ S.P, d.1 = ka ∨ d.1 = kb ∨ d.1 = kc
theorem roomE_ok (n : Int) : 0 ≤ roomE n ∧ roomE n ≤ 16777216 := by unfold roomE; repeat' split; all_goals omega
theorem FullSt.step {R : Int} {k : Nat} {S : FS} (h : FullSt R k S) (hn : (S.P.map Prod.fst).Nodup) {x : Key} (hx : x = ka ∨ x = kb ∨ x = kc) (dl : List UInt8) :
    (((usedP S.P : Int) + dl.length ≤ R → (appS S x dl).1 = 0 ∧ usedP (appS S x dl).2.P = usedP S.P + dl.length) ∧ (¬ (usedP S.P : Int) + dl.length ≤ R → (appS S x dl).1 = 22 ∧ usedP (appS S x dl).2.P = usedP S.P)) ∧ FullSt R (k + 1) (appS S x dl).2 := by
  have hnm : nameB x.1 = true := by rcases hx with rfl | rfl | rfl <;> decide
  have hask : askE S.on [x] = 0 := by rw [h.on, ask1, hnm]; rfl
  have hlen : S.P.length ≤ 3 := by
    have := three hn (x := ka) (y := kb) (z := kc) (fun a ha => by obtain ⟨d, hd, rfl⟩ := List.mem_map.1 ha; exact h.keys d hd)
    rwa [List.length_map] at this
  have hfull : fullP S.room S.P x dl.length = decide (R - usedP S.P < dl.length) := by
    unfold fullP
    rw [h.room, decide_eq_false (by omega : ¬ 256 ≤ S.P.length), Bool.and_false, Bool.false_or]
  have happ : appS S x dl = if decide (R - usedP S.P < dl.length) = true then (22, S) else (0, ⟨S.room, 0, S.steps + 1, true, appP S.P x dl⟩) := by
    unfold appS
    rw [if_neg (by rw [hask]; simp), hfull, h.left]
    rfl
  rw [happ]
  by_cases hc : R - usedP S.P < dl.length
  · rw [decide_eq_true hc, if_pos rfl]
    exact ⟨⟨fun q => absurd q (by omega), fun _ => ⟨rfl, rfl⟩⟩, h.room, h.left, h.on, ⟨h.steps.1, by have := h.steps.2; show S.steps ≤ ((k + 1 : Nat) : Int); omega⟩, h.used, h.keys⟩
  · rw [decide_eq_false hc, if_neg (by simp)]
    have hu := used_app hn x dl
    refine ⟨⟨fun _ => ⟨rfl, hu⟩, fun q => absurd q (by omega)⟩, h.room, rfl, rfl, ⟨by have := h.steps.1; show 0 ≤ S.steps + 1; omega, by have := h.steps.2; show S.steps + 1 ≤ ((k + 1 : Nat) : Int); omega⟩, ?_, fun d hd => ?_⟩
    · show ((usedP (appP S.P x dl) : Nat) : Int) ≤ R
      rw [hu]; omega
    · rcases app_keys hd with e | ⟨d0, h0, e⟩
      · rw [e]; exact hx
      · rw [← e]; exact h.keys d0 h0
end Go.Proofs.Ytcfbbembggnanaa
