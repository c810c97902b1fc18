/- Remove. -/
import Derived.Test.YtcfbbembggnanaaFilSyncs
namespace Go.Proofs.Ytcfbbembggnanaa
open Go.RowKit Go.Maps
def goneD (D : FD) (x : Key) : FD := D.filter fun d => decide (d.1 ≠ x)
section
variable {w : World} {g : Nat} {F : List Nat} {room left steps : Int} {on : Bool} {D : FD}
set_option maxRecDepth 100000 in
set_option maxHeartbeats 2000000 in
theorem removeF_any (hd : DkIs w g F room left steps on D) {x : Key} {b : Nat} {fl : Fl} (hm : (x, (b, fl)) ∈ D) (bx : Nat) (hbx : w.cell? ⟨bx, 0, none⟩ = some (.pointer (some ⟨g, 0, none⟩))) :
    Calls Try.prog 39 #[.pointer (some ⟨b, 0, none⟩), .pointer (some ⟨bx, 0, none⟩)] w fun e w' => e = .returned (.tuple #[]) ∧ DkIs w' g F room left steps on (goneD D x) ∧ Fr w.heap.size F w w' := by
  obtain ⟨h5, h6⟩ := hd.files _ hm
  simp only at h5 h6
  obtain ⟨mp, h1, h2⟩ := hd.ex
  obtain ⟨m, rfl, hM, hmF⟩ : ∃ m, mp = .map (some m) ∧ MapIs KV PV w m (mapD D) ∧ m ∈ F := by
    rcases h2 with ⟨_, h⟩ | h
    · have : (x, b) ∈ mapD D := List.mem_map.2 ⟨_, hm, rfl⟩
      rw [h] at this
      simp at this
    · exact h
  go_enter Try.func39, Try.ntmps39
  go_upto_region 0 with fail
  refine region_still_tail 8 (by kernel_rfl) (by kernel_rfl) ?_
  intro W hW
  have fW : Fr w.heap.size [] w W := by rw [hW]; exact (Fr.refl _ _ _).drew
  have dW := hd.fr0 fW
  have c0 : W.cell? ⟨bx, 0, none⟩ = some (.pointer (some ⟨g, 0, none⟩)) := by rw [hW]; exact hbx
  have c1 : W.cell? ⟨g, 0, none⟩ = some (.map (some m)) := by rw [hW]; exact h1.cell 0
  obtain ⟨s, hs⟩ : ∃ s : ByteArray, KV x = .string s := ⟨_, rfl⟩
  have c2 : W.cell? ⟨b, 2, none⟩ = some (.string s) := by rw [hW, ← hs]; exact h5.cell 2
  have hMW : MapIs KV PV W m (mapD D) := by rw [hW]; exact hM
  obtain ⟨W', r1, r2, r3⟩ := hMW.del strEnc Try.underlying43 (fun _ _ => trivial) (a := x) trivial 0
  rw [hs] at r1
  have hmp2 : (mapD D).filter (fun d => decide (d.1 ≠ x)) = mapD (goneD D x) := by
    unfold mapD goneD
    rw [List.filter_map]
    rfl
  rw [hmp2] at r2
  have dW' : DkIs W' g F room left steps on (goneD D x) := dW.remap c1 _ r3 r2 hmF ⟨_, hMW⟩ (fun d hd' => dW.files d (List.mem_filter.1 hd').1) (hd.apart.sublist (List.Sublist.map _ List.filter_sublist)) (hd.nod.sublist (List.Sublist.map _ List.filter_sublist))
  have fW' : Fr w.heap.size F w W' := (fW.mono (Nat.le_refl _) (by simp)).one r3 (.inl hmF)
  clear hW
  simp only [List.take_succ_cons, List.take_zero, List.drop_succ_cons, List.drop_zero]
  iterate 8 (refine wpStill_step (fun K hK => ?_); go_simp; refine hK _ ?_; clear hK K)
  refine wpStill_nil ?_
  go_wp2
  refine bodyPost_end (v := .tuple #[]) (by simp [results, Try.results39, go_sem]) rfl ⟨rfl, dW', fW'⟩
set_option maxHeartbeats 1000000 in
theorem remove_any (hd : DkIs w g F room left steps on D) (A : Option Addr) (c : Nat) (xs : List Key) (hA : ARow w w.heap.size A (xs.map KV)) (hAF : xs ≠ [] → ∀ blk o, A = some ⟨blk, o, none⟩ → blk ∉ F) (hl : xs.length ≤ 1000000) (hl0 : 0 ≤ left) (hl1 : left ≤ 9223372036854775807) (hs0 : 0 ≤ steps) (hs1 : steps ≤ 1000000000) :
    Calls Try.prog 21 #[.pointer (some ⟨g, 0, none⟩), .slice A xs.length c] w fun e w' =>
      e = .returned (.int .i64 (eachS goneD xs ⟨D, left, steps, on⟩).1) ∧ DkIs w' g F room (eachS goneD xs ⟨D, left, steps, on⟩).2.left (eachS goneD xs ⟨D, left, steps, on⟩).2.steps (eachS goneD xs ⟨D, left, steps, on⟩).2.on (eachS goneD xs ⟨D, left, steps, on⟩).2.D ∧ Fr w.heap.size F w w' := by
  have f1 := (Fr.refl w.heap.size [] w).alloc (Nat.le_refl _) (.cells #[.pointer (some ⟨g, 0, none⟩)] 25)
  have hbx := Has.new w 25 [.pointer (some ⟨g, 0, none⟩)]
  have hnF : w.heap.size ∉ F := fun h => by have := hd.lt _ h; omega
  have he := each_any (hd.fr0 f1) 39 #[.pointer (some ⟨w.heap.size, 0, none⟩)] goneD (enters_of Try.func39 (by kernel_rfl) rfl) (fun W l' s' o' D' x b fl d1 hm hf _ =>
    removeF_any d1 hm w.heap.size ((hf.cell (p := ⟨w.heap.size, 0, none⟩) (by simp) hnF).trans (hbx.cell 0))) A c ((hA.fr f1 (Nat.le_refl _) (by simp)).mono f1.size) hAF hl hl0 hl1 hs0 hs1
  obtain ⟨R, hR⟩ : ∃ R, eachS goneD xs ⟨D, left, steps, on⟩ = R := ⟨_, rfl⟩
  rw [hR] at he ⊢
  have c0 : (w.alloc (.cells #[.pointer (some ⟨g, 0, none⟩)] 25)).cell? ⟨w.heap.size, 0, none⟩ = some (.pointer (some ⟨g, 0, none⟩)) := hbx.cell 0
  go_enter Try.func21, Try.ntmps21
  go_wp2_with (go_at_call 28; (refine he.mono ?_); rintro e w2 ⟨rfl, h2, h3⟩)
  go_ret
  exact ⟨rfl, h2, (f1.mono (Nat.le_refl _) (by simp)).trans (h3.mono f1.size fun _ h _ => h)⟩
end
end Go.Proofs.Ytcfbbembggnanaa
