/- HasPrefix, List. -/
import Derived.Test.YtcfbbembggnanaaFilDel
namespace Go.Proofs.Ytcfbbembggnanaa
open Go.RowKit Go.Maps
/-- Is t a beginning of s? -/
def prefA (s t : ByteArray) : Bool := decide (t.size ≤ s.size) && ((s.extract 0 t.size).toList == t.toList)
set_option maxHeartbeats 1000000 in
theorem lite_any (w : World) (s t : ByteArray) : Calls Try.prog 51 #[.string s, .string t] w fun e w' => e = .returned (.bool (prefA s t)) ∧ w = w' := by
  by_cases h : t.size ≤ s.size
  · have hb : decide ((t.size : Int) ≤ (s.size : Int)) = true := by simpa using h
    have hb2 : decide ((s.size : Int) ≥ (t.size : Int)) = true := hb
    have hP : prefA s t = ((s.extract 0 t.size).toList == t.toList) := by unfold prefA; simp [h]
    rw [hP]
    clear hP
    go_enter Try.func51, Try.ntmps51
    go_upto_region 1 with fail
    go_wp2
    go_ret
    exact ⟨rfl, rfl⟩
  · have hb : decide ((t.size : Int) ≤ (s.size : Int)) = false := by simp; omega
    have hb2 : decide ((s.size : Int) ≥ (t.size : Int)) = false := hb
    have hP : prefA s t = false := by unfold prefA; simp [h]
    rw [hP]
    clear hP
    go_enter Try.func51, Try.ntmps51
    go_upto_region 1 with fail
    go_wp2
    go_ret
    exact ⟨rfl, rfl⟩
set_option maxHeartbeats 1000000 in
theorem prefix_any (w : World) (s t : ByteArray) : Calls Try.prog 38 #[.string s, .string t] w fun e w' => e = .returned (.bool (prefA s t)) ∧ w = w' := by
  have h := lite_any w s t
  obtain ⟨b, hb⟩ : ∃ b, prefA s t = b := ⟨_, rfl⟩
  rw [hb] at h ⊢
  go_enter Try.func38, Try.ntmps38
  go_wp2_with (go_at_call 51; (refine h.mono ?_); rintro e w' ⟨rfl, rfl⟩)
  go_ret
  exact ⟨rfl, rfl⟩
def prefK (p x : Key) : Bool := prefA ⟨x.1.toArray⟩ ⟨p.1.toArray⟩
set_option maxHeartbeats 1000000 in
theorem listF_any (w : World) (x p : Key) (bx : Nat) (hb : w.cell? ⟨bx, 0, none⟩ = some (KV p)) : Calls Try.prog 37 #[KV x, .pointer (some ⟨bx, 0, none⟩)] w fun e w' => e = .returned (.bool (!prefK p x)) ∧ w = w' := by
  have h := prefix_any w ⟨x.1.toArray⟩ ⟨p.1.toArray⟩
  unfold prefK KV encStr at *
  generalize (⟨x.1.toArray⟩ : ByteArray) = s at *
  generalize (⟨p.1.toArray⟩ : ByteArray) = t at *
  obtain ⟨b, hbb⟩ : ∃ b, prefA s t = b := ⟨_, rfl⟩
  rw [hbb] at h ⊢
  go_enter Try.func37, Try.ntmps37
  go_wp2_with (go_at_call 38; (refine h.mono ?_); rintro e w' ⟨rfl, rfl⟩)
  go_ret
  exact ⟨rfl, rfl⟩
/-- What List gives. -/
def ListPost (w : World) (on : Bool) (D : FD) (p : Key) (e : Ending) (w' : World) : Prop :=
  ∃ (v : Value) (ls : List Key), e = .returned v ∧ w'.ownsRow w.heap.size 9 1 v ls.length (ls.map KV) ∧ Fr w.heap.size [] w w' ∧ (on = false → ls = []) ∧ (on = true → ∃ ns : List Key, ns.Perm (D.map Prod.fst) ∧ ls = ns.filter (prefK p))
section
variable {w : World} {g : Nat} {F : List Nat} {room left steps : Int} {on : Bool} {D : FD}
theorem row_nil (w : World) (base : Nat) : w.ownsRow base 9 1 (.slice none 0 0) ([] : List Key).length (([] : List Key).map KV) := ⟨rfl, .inl ⟨rfl, rfl⟩⟩
set_option maxHeartbeats 1000000 in
theorem list_nil (w : World) (p : Key) : Calls Try.prog 18 #[.pointer none, KV p] w fun e w' => e = .returned (.slice none 0 0) ∧ Fr w.heap.size [] w w' := by
  obtain ⟨t, ht⟩ : ∃ t : ByteArray, KV p = .string t := ⟨_, rfl⟩
  rw [ht]
  have f1 := (Fr.refl w.heap.size [] w).alloc (Nat.le_refl _) (.cells #[.string t] 9)
  go_enter Try.func18, Try.ntmps18
  go_wp2_with (go_at_call 19; (refine (on_nil _).mono ?_); rintro e w2 ⟨rfl, rfl⟩)
  go_ret
  exact ⟨rfl, f1⟩
set_option maxHeartbeats 2000000 in
theorem list_any (hd : DkIs w g F room left steps on D) (hl : D.length ≤ 1000000) (p : Key) : Calls Try.prog 18 #[.pointer (some ⟨g, 0, none⟩), KV p] w (ListPost w on D p) := by
  obtain ⟨t, ht⟩ : ∃ t : ByteArray, KV p = .string t := ⟨_, rfl⟩
  have f1 := (Fr.refl w.heap.size [] w).alloc (Nat.le_refl _) (.cells #[KV p] 9)
  have k1 := Has.new w 9 [KV p]
  obtain ⟨w1, hw1⟩ : ∃ w1, w1 = w.alloc (.cells #[KV p] 9) := ⟨_, rfl⟩
  have z1 : w1.heap.size = w.heap.size + 1 := by rw [hw1]; simp
  rw [← hw1] at f1 k1
  have d1 := hd.fr0 f1
  have ho := on_any d1
  obtain ⟨mp, c1, c2⟩ := d1.ex
  have e0 : w1.cell? ⟨g, 0, none⟩ = some mp := c1.cell 0
  obtain ⟨mb, rfl, hS⟩ := sorted_any c2 (by simpa [mapD] using hl)
  have hK := keys_any mb w1
  have hdel : ∀ w3 v (ns : List Key), ns.Perm ((mapD D).map Prod.fst) → w3.ownsRow (w1.heap.size + 1) 9 1 v ns.length (ns.map KV) → Fr w1.heap.size [] w1 w3 →
      Calls Try.prog 36 #[v, .func (.func 37) #[] #[.pointer (some ⟨w.heap.size, 0, none⟩)]] w3 (fun e w' => ∃ v', e = .returned v' ∧ ListPost w true D p (.returned v') w') := fun w3 v ns h1 h2 h3 => by
    have hnl : ns.length ≤ 1000000 := by rw [h1.length_eq]; simpa [mapD] using hl
    refine (delKey_any w3 (w1.heap.size + 1) v ns 37 _ (fun x => !prefK p x) (enters_of Try.func37 (by kernel_rfl) rfl) h2 (by omega) (fun W hW m _ => ?_)).mono ?_
    · refine (listF_any W m p w.heap.size ?_).mono fun e w' ⟨q1, q2⟩ => ⟨q1, q2 ▸ Fr.refl _ _ _⟩
      refine (hW.cell (p := ⟨w.heap.size, 0, none⟩) (by have := h3.size; simp; omega) ?_).trans ((h3.cell (p := ⟨w.heap.size, 0, none⟩) (by simp; omega) (by simp)).trans (k1.cell 0))
      have h9 := h2.2
      rcases h9 with ⟨rfl, _⟩ | ⟨gb, cap, cur, rfl, hb, _⟩
      · simp [Value.ownBlock]
      · simp [Value.ownBlock]; omega
    · rintro e w' ⟨v', rfl, r1, r2, r3⟩
      have hown : ∀ k ∈ v.ownBlock.toList, w1.heap.size + 1 ≤ k := by
        rcases h2.2 with ⟨rfl, _⟩ | ⟨gb, cap, cur, rfl, hb, _⟩
        · simp [Value.ownBlock]
        · simpa [Value.ownBlock] using hb
      refine ⟨v', rfl, v', _, rfl, ownsRow_base_a r1 (by omega), ?_, by simp, fun _ => ⟨ns, ?_, ?_⟩⟩
      · have f3 : Fr w.heap.size [] w w3 := f1.trans (h3.mono (by omega) (by simp))
        exact f3.trans ⟨r3.os, r3.tape, r3.output, r3.size, fun k hk _ => r3.block k (by have := h3.size; omega) (fun hm => by have := hown k hm; omega)⟩
      · rw [show (mapD D).map Prod.fst = D.map Prod.fst by unfold mapD; rw [List.map_map]; rfl] at h1
        exact h1
      · simp
  clear c2 k1 hd d1
  simp only [z1] at hS hK hdel
  rw [hw1, ht] at hS hK ho e0 hdel
  rw [ht]
  cases on
  · have f9 : Fr w.heap.size [] w (w.alloc (.cells #[.string t] 9)) := (Fr.refl _ _ _).alloc (Nat.le_refl _) _
    clear hS hK hdel z1 hw1 f1 c1
    go_enter Try.func18, Try.ntmps18
    go_wp2_with (go_at_call 19; (refine ho.mono ?_); rintro e w2 ⟨rfl, rfl⟩)
    go_ret
    exact ⟨_, [], rfl, row_nil _ _, f9, fun _ => rfl, fun h => by simp at h⟩
  · clear z1 hw1 f1 c1
    go_enter Try.func18, Try.ntmps18
    go_wp2_with (first
      | (go_at_call 36; (with_reducible refine (hdel _ _ _ hns hrow hfr).mono ?_); rintro e w2 ⟨v', rfl, hpost⟩)
      | (go_at_call 32; (with_reducible refine hS.mono ?_); rintro e w2 ⟨v, ns, rfl, hns, hrow, hfr⟩; obtain ⟨A, cp, rfl⟩ := own_slice hrow)
      | (go_at_call 33; (with_reducible refine hK.mono ?_); rintro e w2 ⟨rfl, rfl⟩)
      | (go_at_call 19; (with_reducible refine ho.mono ?_); rintro e w2 ⟨rfl, rfl⟩))
    go_ret
    exact hpost
end
end Go.Proofs.Ytcfbbembggnanaa
