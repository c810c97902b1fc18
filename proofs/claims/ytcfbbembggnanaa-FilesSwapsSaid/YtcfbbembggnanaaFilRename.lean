/- Rename's step with one file, Rename. -/
import Derived.Test.YtcfbbembggnanaaFilNils
import Derived.Test.YtcfbbembggnanaaMapGet
namespace Go.Proofs.Ytcfbbembggnanaa
open Go.RowKit Go.Maps
theorem One.cellAt {g : Nat} {w w' : World} (o : One g w w') {p : Addr} (h : p.block ≠ g) : w'.cell? p = w.cell? p := World.cell?_of_block (w := w) (o.block p.block h)
theorem putD_map (D : FD) (y : Key) (z : Nat × Fl) : mapD (putL D y z) = putL (mapD D) y z.1 := by
  have hk : (mapD D).map Prod.fst = D.map Prod.fst := by unfold mapD; rw [List.map_map]; rfl
  unfold putL
  rw [hk]
  by_cases h : y ∈ D.map Prod.fst
  · rw [if_pos h, if_pos h]
    unfold mapD
    rw [List.map_map, List.map_map]
    refine List.map_congr_left fun d _ => ?_
    simp only [Function.comp]
    split <;> rfl
  · rw [if_neg h, if_neg h]
    simp [mapD]
theorem putD_mem {D : FD} {y : Key} {z : Nat × Fl} {d : Key × (Nat × Fl)} (h : d ∈ putL D y z) : d = (y, z) ∨ d ∈ D := by
  unfold putL at h
  split at h
  · obtain ⟨d0, h0, rfl⟩ := List.mem_map.1 h
    by_cases e : d0.1 = y
    · rw [if_pos e]; exact .inl rfl
    · rw [if_neg e]; exact .inr h0
  · rcases List.mem_append.1 h with h | h
    · exact .inr h
    · exact .inl (by simpa using h)
theorem putD_nod {D : FD} (hn : (D.map Prod.fst).Nodup) (y : Key) (z : Nat × Fl) : ((putL D y z).map Prod.fst).Nodup := by
  unfold putL
  split
  · have : (D.map fun d => if d.1 = y then (y, z) else d).map Prod.fst = D.map Prod.fst := by
      rw [List.map_map]
      refine List.map_congr_left fun d _ => ?_
      simp only [Function.comp]
      split
      · rename_i e; exact e.symm
      · rfl
    rw [this]; exact hn
  · rename_i h
    rw [List.map_append, List.nodup_append]
    exact ⟨hn, by simp, fun b hb c hc e => h (by simp at hc; rw [← hc, ← e]; exact hb)⟩
theorem putD_blocks {D : FD} (hn : (D.map Prod.fst).Nodup) (ha : (D.map (·.2.1)).Nodup) (y : Key) {z : Nat × Fl} (hz : ∀ d ∈ D, d.2.1 ≠ z.1) : ((putL D y z).map (·.2.1)).Nodup := by
  unfold putL
  split
  · rename_i hmem0; clear hmem0
    induction D with
    | nil => simp
    | cons c D ih =>
      rw [List.map_cons, List.nodup_cons] at hn ha
      rw [List.map_cons, List.map_cons, List.nodup_cons]
      refine ⟨fun hmem => ?_, ih hn.2 ha.2 fun d hd => hz d (List.mem_cons_of_mem _ hd)⟩
      obtain ⟨d1, h1, e1⟩ := List.mem_map.1 hmem
      obtain ⟨d0, h0, rfl⟩ := List.mem_map.1 h1
      by_cases ec : c.1 = y
      · rw [if_pos ec] at e1
        by_cases e : d0.1 = y
        · exact hn.1 (List.mem_map.2 ⟨d0, h0, by rw [e, ec]⟩)
        · rw [if_neg e] at e1
          exact hz d0 (List.mem_cons_of_mem _ h0) e1
      · rw [if_neg ec] at e1
        by_cases e : d0.1 = y
        · rw [if_pos e] at e1
          exact hz c List.mem_cons_self e1.symm
        · rw [if_neg e] at e1
          exact ha.1 (List.mem_map.2 ⟨d0, h0, e1⟩)
  · rw [List.map_append, List.nodup_append]
    refine ⟨ha, by simp, fun b hb c hc e => ?_⟩
    obtain ⟨d, hd, rfl⟩ := List.mem_map.1 hb
    simp at hc
    exact hz d hd (e.trans hc)
def renD (y : Key) (D : FD) (x : Key) : FD := match getL D x with
  | some z => putL (goneD D x) y z
  | none => D
section
variable {w w' : World} {g : Nat} {F : List Nat} {room left steps : Int} {on : Bool} {D : FD}
/-- A file that the disk has no more is written. -/
theorem DkIs.beside (h : DkIs w g F room left steps on D) {b : Nat} {cs : List Value} (hb : Has w b 52 cs) (hn : ∀ d ∈ D, d.2.1 ≠ b) (ho : One b w w') : DkIs w' g F room left steps on D := by
  obtain ⟨mp, h1, h4⟩ := h.ex
  refine ⟨⟨mp, h1.one ho (h1.ne hb (by decide)), ?_⟩, fun d hd => ⟨(h.files d hd).1.one ho (hn d hd), (h.files d hd).2⟩, h.apart, h.nod, h.self, fun k hk => by rw [ho.size]; exact h.lt k hk⟩
  rcases h4 with h4 | ⟨m, e1, e2, e3⟩
  · exact .inl h4
  · refine .inr ⟨m, e1, e2.block (ho.block m fun e => ?_), e3⟩
    obtain ⟨es, clock, hm, _⟩ := e2
    rw [e] at hm
    unfold Has at hb
    rw [hb] at hm
    cases hm
theorem DkIs.mapOf (h : DkIs w g F room left steps on D) {z : Key × (Nat × Fl)} (hm : z ∈ D) : ∃ m, Has w g 45 [.map (some m), .int .i64 room, .int .i64 left, .bool on, .int .i64 steps] ∧ MapIs KV PV w m (mapD D) ∧ m ∈ F := by
  obtain ⟨mp, h1, h2⟩ := h.ex
  rcases h2 with ⟨_, h⟩ | ⟨m, rfl, hM, hmF⟩
  · have : (z.1, z.2.1) ∈ mapD D := List.mem_map.2 ⟨_, hm, rfl⟩
    rw [h] at this
    simp at this
  · exact ⟨m, h1, hM, hmF⟩
set_option maxRecDepth 100000 in
set_option maxHeartbeats 4000000 in
theorem renameF_any (hd : DkIs w g F room left steps on D) {x : Key} {b : Nat} {fl : Fl} (hm : (x, (b, fl)) ∈ D) (y : Key) (b1 b2 b3 : Nat)
    (hb1 : w.cell? ⟨b1, 0, none⟩ = some (.pointer (some ⟨g, 0, none⟩))) (hb2 : w.cell? ⟨b2, 0, none⟩ = some (KV x)) (hb3 : w.cell? ⟨b3, 0, none⟩ = some (KV y)) (hn1 : b1 ∉ F) (hn3 : b3 ∉ F) (hlt1 : b1 < w.heap.size) (hlt3 : b3 < w.heap.size) :
    Calls Try.prog 40 #[.pointer (some ⟨b, 0, none⟩), .pointer (some ⟨b1, 0, none⟩), .pointer (some ⟨b2, 0, none⟩), .pointer (some ⟨b3, 0, none⟩)] w fun e w' => e = .returned (.tuple #[]) ∧ DkIs w' g F room left steps on (renD y D x) ∧ Fr w.heap.size F w w' := by
  obtain ⟨h5, h6⟩ := hd.files _ hm
  simp only at h5 h6
  obtain ⟨m, h1, hM, hmF⟩ := hd.mapOf hm
  obtain ⟨s, hs⟩ : ∃ s : ByteArray, KV x = .string s := ⟨_, rfl⟩
  obtain ⟨t, ht⟩ : ∃ t : ByteArray, KV y = .string t := ⟨_, rfl⟩
  rw [hs] at hb2
  rw [ht] at hb3
  have hren : renD y D x = putL (goneD D x) y (b, fl) := by unfold renD; rw [get_of hd.nod hm]
  rw [hren]
  clear hren
  go_enter Try.func40, Try.ntmps40
  go_upto_region 0 with fail
  refine region_still_tail 5 (by kernel_rfl) (by kernel_rfl) ?_
  intro W hW
  have fW : Fr w.heap.size [] w W := by rw [hW]; exact (Fr.refl _ _ _).drew
  have dW := hd.fr0 fW
  have c0 : W.cell? ⟨b1, 0, none⟩ = some (.pointer (some ⟨g, 0, none⟩)) := by rw [hW]; exact hb1
  have c1 : W.cell? ⟨g, 0, none⟩ = some (.map (some m)) := by rw [hW]; exact h1.cell 0
  have c2 : W.cell? ⟨b2, 0, none⟩ = some (.string s) := by rw [hW]; exact hb2
  have hMW : MapIs KV PV W m (mapD D) := by rw [hW]; exact hM
  obtain ⟨W1, r1, r2, r3⟩ := hMW.del strEnc Try.underlying43 (fun _ _ => trivial) (a := x) trivial 0
  rw [hs] at r1
  have hmp2 : (mapD D).filter (fun d => decide (d.1 ≠ x)) = mapD (goneD D x) := by
    unfold mapD goneD
    rw [List.filter_map]
    rfl
  rw [hmp2] at r2
  have hnodG : ((goneD D x).map Prod.fst).Nodup := hd.nod.sublist (List.Sublist.map _ List.filter_sublist)
  have hapG : ((goneD D x).map (·.2.1)).Nodup := hd.apart.sublist (List.Sublist.map _ List.filter_sublist)
  have hbG : ∀ d ∈ goneD D x, d.2.1 ≠ b := fun d hd' e => by
    obtain ⟨q1, q2⟩ := List.mem_filter.1 hd'
    have : d = (x, (b, fl)) := nodup_eq2 hd.apart q1 hm e
    rw [this] at q2
    simp at q2
  have dW1 : DkIs W1 g F room left steps on (goneD D x) := dW.remap c1 _ r3 r2 hmF ⟨_, hMW⟩ (fun d hd' => dW.files d (List.mem_filter.1 hd').1) hapG hnodG
  have fW1 : Fr w.heap.size F w W1 := (fW.mono (Nat.le_refl _) (by simp)).one r3 (.inl hmF)
  have h5W : Has W1 b 52 (flC x fl) := by
    have : Has W b 52 (flC x fl) := by rw [hW]; exact h5
    refine this.one r3 fun e => ?_
    obtain ⟨es, clock, hq, _⟩ := hMW
    unfold Has at this
    rw [← e, this] at hq
    cases hq
  clear hW
  simp only [List.take_succ_cons, List.take_zero, List.drop_succ_cons, List.drop_zero]
  iterate 5 (refine wpStill_step (fun K hK => ?_); go_simp; refine hK _ ?_; clear hK K)
  refine wpStill_nil ?_
  have c3 : W1.cell? ⟨b3, 0, none⟩ = some (.string t) := (fW1.cell (p := ⟨b3, 0, none⟩) hlt3 hn3).trans hb3
  have z2 := h5W.frozen 2
  have cc2 : W1.cell? ⟨b, 2, none⟩ = some (.string s) := by rw [← hs]; exact h5W.cell 2
  have o2 := (One.refl b W1).setCell 2 (.string t)
  have d2 := dW1.beside h5W hbG o2
  have h52 : Has (W1.setCell ⟨b, 2, none⟩ (.string t)) b 52 (flC y fl) := by
    have := h5W.set 2 (.string t)
    unfold flC
    rw [ht]
    exact this
  have f2 : Fr w.heap.size F w (W1.setCell ⟨b, 2, none⟩ (.string t)) := fW1.one o2 (.inl h6)
  have hM2 : MapIs KV PV (W1.setCell ⟨b, 2, none⟩ (.string t)) m (mapD (goneD D x)) := by
    refine r2.block (o2.block m fun e => ?_)
    obtain ⟨es, clock, hq, _⟩ := r2
    unfold Has at h5W
    rw [e, h5W] at hq
    cases hq
  have g2 : (W1.setCell ⟨b, 2, none⟩ (.string t)).cell? ⟨g, 0, none⟩ = some (.map (some m)) := by
    have hgb : g ≠ b := h1.ne h5 (by decide)
    have hgm : g ≠ m := fun e => by
      obtain ⟨es, clock, hq, _⟩ := hM
      unfold Has at h1
      rw [← e, h1] at hq
      cases hq
    have : W1.cell? ⟨g, 0, none⟩ = some (.map (some m)) := (r3.cellAt (p := ⟨g, 0, none⟩) hgm).trans c1
    exact (o2.cellAt (p := ⟨g, 0, none⟩) hgb).trans this
  go_upto_region 2 with fail
  generalize W1.setCell ⟨b, 2, none⟩ (.string t) = W2 at *
  refine region_still_tail 6 (by kernel_rfl) (by kernel_rfl) ?_
  intro W3 hW3
  have fW3 : Fr W2.heap.size [] W2 W3 := by rw [hW3]; exact (Fr.refl _ _ _).drew
  have d3 := d2.fr0 fW3
  have e0 : W3.cell? ⟨b1, 0, none⟩ = some (.pointer (some ⟨g, 0, none⟩)) := by rw [hW3]; exact (f2.cell (p := ⟨b1, 0, none⟩) hlt1 hn1).trans hb1
  have e1 : W3.cell? ⟨g, 0, none⟩ = some (.map (some m)) := by rw [hW3]; exact g2
  have e3 : W3.cell? ⟨b3, 0, none⟩ = some (.string t) := by rw [hW3]; exact (f2.cell (p := ⟨b3, 0, none⟩) hlt3 hn3).trans hb3
  have hM3 : MapIs KV PV W3 m (mapD (goneD D x)) := by rw [hW3]; exact hM2
  have h53 : Has W3 b 52 (flC y fl) := by rw [hW3]; exact h52
  obtain ⟨W4, r4, r5, r6⟩ := hM3.put strEnc Try.underlying43 (fun _ _ => trivial) (a := y) trivial b
  rw [ht] at r4
  unfold PV at r4
  have f4 : Fr w.heap.size F w W4 := (f2.trans (fW3.mono f2.size (by simp))).one r6 (.inl hmF)
  have d4 : DkIs W4 g F room left steps on (putL (goneD D x) y (b, fl)) := by
    refine d3.remap e1 _ r6 (by rw [putD_map]; exact r5) hmF ⟨_, hM3⟩ (fun d hd' => ?_) (putD_blocks hnodG hapG y hbG) (putD_nod hnodG y _)
    rcases putD_mem hd' with rfl | h8
    · exact ⟨h53, h6⟩
    · exact d3.files d h8
  clear hW3
  simp only [List.take_succ_cons, List.take_zero, List.drop_succ_cons, List.drop_zero]
  iterate 6 (refine wpStill_step (fun K hK => ?_); go_simp; refine hK _ ?_; clear hK K)
  refine wpStill_nil ?_
  go_wp2
  refine bodyPost_end (v := .tuple #[]) (by simp [results, Try.results40, go_sem]) rfl ⟨rfl, d4, f4⟩
end
end Go.Proofs.Ytcfbbembggnanaa
