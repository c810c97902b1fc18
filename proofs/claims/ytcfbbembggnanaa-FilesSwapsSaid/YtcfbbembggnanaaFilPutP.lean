/- A file's bytes grow; a new file is put: the disk in memory behind it. -/
import Derived.Test.YtcfbbembggnanaaFilThere
namespace Go.Proofs.Ytcfbbembggnanaa
open Go.RowKit Go.Maps
/-- The files without their blocks. -/
def plainL (D : FD) : List (Key × Fl) := D.map fun d => (d.1, d.2.2)
/-- The entry of x with more bytes. -/
def growD (D : FD) (x : Key) (dl : List UInt8) : FD := D.map fun d => if d.1 = x then (x, (d.2.1, ⟨d.2.2.bs ++ dl, d.2.2.firm⟩)) else d
theorem growD_keys (D : FD) (x : Key) (dl : List UInt8) : (growD D x dl).map Prod.fst = D.map Prod.fst := by
  unfold growD
  rw [List.map_map]
  refine List.map_congr_left fun d _ => ?_
  simp only [Function.comp]
  split
  · rename_i h; exact h.symm
  · rfl
theorem growD_map (D : FD) (x : Key) (dl : List UInt8) : mapD (growD D x dl) = mapD D := by
  unfold growD mapD
  rw [List.map_map]
  refine List.map_congr_left fun d _ => ?_
  simp only [Function.comp]
  split
  · rename_i h; rw [h]
  · rfl
theorem growD_blocks (D : FD) (x : Key) (dl : List UInt8) : (growD D x dl).map (·.2.1) = D.map (·.2.1) := by
  unfold growD
  rw [List.map_map]
  refine List.map_congr_left fun d _ => ?_
  simp only [Function.comp]
  split <;> rfl
section
variable {w w' : World} {g : Nat} {F : List Nat} {room left steps : Int} {on : Bool} {D : FD}
theorem nodup_eq {α β : Type} {D : List (α × β)} (hn : (D.map Prod.fst).Nodup) {a b : α × β} (ha : a ∈ D) (hb : b ∈ D) (h : a.1 = b.1) : a = b := by
  obtain ⟨i, hi⟩ := List.getElem?_of_mem ha
  obtain ⟨j, hj⟩ := List.getElem?_of_mem hb
  have := nodup_at hn hi hj rfl h.symm
  subst this
  rw [hi] at hj
  injection hj
theorem nodup_eq2 {D : FD} (hn : (D.map (·.2.1)).Nodup) {a b : Key × (Nat × Fl)} (ha : a ∈ D) (hb : b ∈ D) (h : a.2.1 = b.2.1) : a = b := by
  obtain ⟨i, hi⟩ := List.getElem?_of_mem ha
  obtain ⟨j, hj⟩ := List.getElem?_of_mem hb
  obtain ⟨hil, hi⟩ := List.getElem?_eq_some_iff.1 hi
  obtain ⟨hjl, hj⟩ := List.getElem?_eq_some_iff.1 hj
  have hp := List.pairwise_iff_getElem.1 hn
  rcases Nat.lt_trichotomy i j with h1 | h1 | h1
  · exact absurd (by rw [List.getElem_map, List.getElem_map, hi, hj, h]) (hp i j (by simpa using hil) (by simpa using hjl) h1)
  · subst h1; rw [← hi, ← hj]
  · exact absurd (by rw [List.getElem_map, List.getElem_map, hi, hj, h]) (hp j i (by simpa using hjl) (by simpa using hil) h1)
/-- One file's block is written: its new content is nf. -/
theorem DkIs.file (h : DkIs w g F room left steps on D) {x : Key} {b : Nat} {fl : Fl} (hm : (x, (b, fl)) ∈ D) (ho : One b w w') (nf : Fl) (hc : Has w' b 52 (flC x nf)) :
    DkIs w' g F room left steps on (D.map fun d => if d.1 = x then (x, (d.2.1, nf)) else d) := by
  obtain ⟨mp, h1, h4⟩ := h.ex
  obtain ⟨h5, h6⟩ := h.files _ hm
  have hbg : g ≠ b := h1.ne h5 (by decide)
  have hmap : mapD (D.map fun d => if d.1 = x then (x, (d.2.1, nf)) else d) = mapD D := by
    unfold mapD
    rw [List.map_map]
    refine List.map_congr_left fun d _ => ?_
    simp only [Function.comp]
    split
    · rename_i e; rw [e]
    · rfl
  refine ⟨⟨mp, h1.one ho hbg, ?_⟩, fun d hd => ?_, ?_, ?_, h.self, fun k hk => by rw [ho.size]; exact h.lt k hk⟩
  · rw [hmap]
    rcases h4 with h4 | ⟨m, e1, e2, e3⟩
    · exact .inl h4
    · refine .inr ⟨m, e1, e2.block (ho.block m fun e => ?_), e3⟩
      obtain ⟨es, clock, hb, _⟩ := e2
      rw [e] at hb
      simp only at h5
      unfold Has at h5
      rw [h5] at hb
      cases hb
  · obtain ⟨d0, hd0, rfl⟩ := List.mem_map.1 hd
    by_cases e : d0.1 = x
    · have : d0 = (x, (b, fl)) := nodup_eq h.nod hd0 hm e
      subst this
      rw [if_pos rfl]
      exact ⟨hc, h6⟩
    · rw [if_neg e]
      obtain ⟨k1, k2⟩ := h.files d0 hd0
      refine ⟨k1.one ho fun e2 => e ?_, k2⟩
      have := nodup_eq2 h.apart hd0 hm e2
      rw [this]
  · have : (D.map fun d => if d.1 = x then (x, (d.2.1, nf)) else d).map (·.2.1) = D.map (·.2.1) := by
      rw [List.map_map]
      refine List.map_congr_left fun d _ => ?_
      simp only [Function.comp]
      split <;> rfl
    rw [this]; exact h.apart
  · have : (D.map fun d => if d.1 = x then (x, (d.2.1, nf)) else d).map Prod.fst = D.map Prod.fst := by
      rw [List.map_map]
      refine List.map_congr_left fun d _ => ?_
      simp only [Function.comp]
      split
      · rename_i e; exact e.symm
      · rfl
    rw [this]; exact h.nod
/-- The map is written: the disk has the entries D'. -/
theorem DkIs.remap (h : DkIs w g F room left steps on D) {m : Nat} (hg : w.cell? ⟨g, 0, none⟩ = some (.map (some m))) (D' : FD) (ho : One m w w') (hM : MapIs KV PV w' m (mapD D')) (hmF : m ∈ F) (hm : ∃ M, MapIs KV PV w m M)
    (hf : ∀ d ∈ D', Has w d.2.1 52 (flC d.1 d.2.2) ∧ d.2.1 ∈ F) (ha : (D'.map (·.2.1)).Nodup) (hn : (D'.map Prod.fst).Nodup) : DkIs w' g F room left steps on D' := by
  obtain ⟨mp, h1, h4⟩ := h.ex
  have hmp : mp = .map (some m) := by
    have := h1.cell 0
    rw [hg] at this
    simp at this
    exact this.symm
  subst hmp
  obtain ⟨M, es, clock, hb, _⟩ := hm
  have hne : ∀ {k : Nat} {t : TypeId} {cs : List Value}, Has w k t cs → k ≠ m := fun hk e => by
    unfold Has at hk
    rw [e, hb] at hk
    cases hk
  exact ⟨⟨_, h1.one ho (hne h1), .inr ⟨m, rfl, hM, hmF⟩⟩, fun d hd => ⟨(hf d hd).1.one ho (hne (hf d hd).1), (hf d hd).2⟩, ha, hn, h.self, fun k hk => by rw [ho.size]; exact h.lt k hk⟩
theorem putL_new_map (D : FD) (x : Key) (nb : Nat) (fl : Fl) (hx : getL D x = none) : putL (mapD D) x nb = mapD (D ++ [(x, (nb, fl))]) := by
  have hne : ∀ d ∈ mapD D, d.1 ≠ x := by
    intro d hd e
    obtain ⟨d0, hd0, rfl⟩ := List.mem_map.1 hd
    simp only at e
    have : ∃ z, getL D x = some z := by
      clear hx hd
      induction D with
      | nil => simp at hd0
      | cons c D ih =>
        obtain ⟨k, z⟩ := c
        rw [getL_cons]
        by_cases h : x = k
        · exact ⟨z, if_pos h⟩
        · rw [if_neg h]
          rcases List.mem_cons.1 hd0 with h1 | h1
          · subst h1; exact absurd e.symm h
          · exact ih h1
    obtain ⟨z, hz⟩ := this
    rw [hx] at hz
    cases hz
  rw [putL_new hne]
  simp [mapD]
/-- The plain list behind an append. -/
theorem plain_grow (D : FD) (x : Key) (b : Nat) (fl : Fl) (dl : List UInt8) (hn : (D.map Prod.fst).Nodup) (hm : (x, (b, fl)) ∈ D) :
    plainL (D.map fun d => if d.1 = x then (x, (d.2.1, (⟨fl.bs ++ dl, fl.firm⟩ : Fl))) else d) = (plainL D).map fun d => if d.1 = x then (x, (⟨d.2.bs ++ dl, d.2.firm⟩ : Fl)) else d := by
  unfold plainL
  rw [List.map_map, List.map_map]
  refine List.map_congr_left fun d hd => ?_
  simp only [Function.comp]
  by_cases e : d.1 = x
  · have : d = (x, (b, fl)) := nodup_eq hn hd hm e
    subst this
    simp
  · simp [e]
end
end Go.Proofs.Ytcfbbembggnanaa
