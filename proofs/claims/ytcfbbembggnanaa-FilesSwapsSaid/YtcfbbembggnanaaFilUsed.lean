/- size, Used, there, Read. -/
import Derived.Test.YtcfbbembggnanaaFilTop
import Derived.Test.YtcfbbembggnanaaMapLeft
import Derived.Laws.IdiomRangeMap
namespace Go.Proofs.Ytcfbbembggnanaa
open Go.RowKit Go.Maps
theorem strV_len (l : List UInt8) : (⟨l.toArray⟩ : ByteArray).size = l.length := by show l.toArray.size = _; simp
set_option maxHeartbeats 1000000 in
theorem size_any (w : World) (b : Nat) (l : List UInt8) (h : w.cell? ⟨b, 0, none⟩ = some (strV l)) : Calls Try.prog 30 #[.pointer (some ⟨b, 0, none⟩)] w fun e w' => e = .returned (.int .i64 (l.length : Int)) ∧ w = w' := by
  unfold strV at h
  have hs := strV_len l
  generalize (⟨l.toArray⟩ : ByteArray) = s at h hs
  rw [← hs]
  clear hs
  go_enter Try.func30, Try.ntmps30
  go_wp2
  go_ret
  exact ⟨rfl, rfl⟩
/-- How many bytes all files have. -/
def usedN (D : FD) : Nat := (D.map fun d => d.2.2.bs.length).sum
/-- The same, of a part of the map. -/
def sizeK (D : FD) (k : Key) : Nat := ((getL D k).map fun z => z.2.bs.length).getD 0
def sumL (D : FD) (L : List (Key × Nat)) : Nat := (L.map fun z => sizeK D z.1).sum
theorem sum_filter {D : FD} : ∀ {L : List (Key × Nat)}, (L.map Prod.fst).Nodup → ∀ {d : Key × Nat}, d ∈ L → sumL D L = sizeK D d.1 + sumL D (L.filter fun z => decide (z.1 ≠ d.1))
  | [], _, d, h => by simp at h
  | z :: L, hn, d, h => by
    rw [List.map_cons, List.nodup_cons] at hn
    rcases List.mem_cons.1 h with rfl | h
    · rw [List.filter_cons_of_neg (by simp), List.filter_eq_self.2 fun y hy => by simpa using fun e : y.1 = d.1 => hn.1 (e ▸ List.mem_map_of_mem hy)]
      simp [sumL]
    · have hne : z.1 ≠ d.1 := fun e => hn.1 (e ▸ List.mem_map_of_mem h)
      rw [List.filter_cons_of_pos (by simpa using hne)]
      have := sum_filter (D := D) hn.2 h
      simp only [sumL, List.map_cons, List.sum_cons] at this ⊢
      omega
theorem get_of {D : FD} (hn : (D.map Prod.fst).Nodup) {d : Key × (Nat × Fl)} (hd : d ∈ D) : getL D d.1 = some d.2 := lookup_mem hn hd
theorem sumL_all {D : FD} (hn : (D.map Prod.fst).Nodup) : sumL D (mapD D) = usedN D := by
  unfold sumL usedN mapD
  rw [List.map_map]
  congr 1
  refine List.map_congr_left fun d hd => ?_
  simp [sizeK, get_of hn hd]
section
variable {w : World} {g : Nat} {F : List Nat} {room left steps : Int} {on : Bool} {D : FD}
set_option maxHeartbeats 1000000 in
theorem used_nil (w : World) : Calls Try.prog 15 #[.pointer none] w fun e w' => e = .returned (.int .i64 0) ∧ w = w' := by
  go_enter Try.func15, Try.ntmps15
  go_wp2
  go_ret
  exact ⟨rfl, rfl⟩
set_option maxHeartbeats 2000000 in
theorem used_any (hd : DkIs w g F room left steps on D) (hu : usedN D ≤ 4611686018427387904) : Calls Try.prog 15 #[.pointer (some ⟨g, 0, none⟩)] w fun e w' => e = .returned (.int .i64 (usedN D : Int)) ∧ Fr w.heap.size [] w w' := by
  obtain ⟨mp, h1, ⟨rfl, h2⟩ | ⟨b, rfl, hm, hbF⟩⟩ := hd.ex
  · have c0 : w.cell? ⟨g, 0, none⟩ = some (.map none) := h1.cell 0
    have hD : D = [] := by unfold mapD at h2; simpa using h2
    subst hD
    have hrg := run_range_nilMap (P := Try.prog) w 43 _ _ Try.underlying43
    have hnx : ∀ ty, (Instr.next (.pointer (some ⟨w.heap.size, 0, none⟩)) false ty).run Try.prog (w.alloc (.mapIter none 0 #[] 0)) = _ := fun ty => run_next_nilMap w ty 0 0 #[]
    go_enter Try.func15, Try.ntmps15
    go_wp2
    go_loopw [3] (fun h wr => h = .int .i64 0 ∧ wr = w.alloc (.mapIter none 0 #[] 0)) (fun _ _ => 0)
    case atStart => exact ⟨rfl, rfl⟩
    case round =>
      obtain ⟨rfl, rfl⟩ := hrel
      go_wp2
      go_ret
      exact ⟨rfl, (Fr.refl w.heap.size [] w).alloc (Nat.le_refl _) _⟩
  · have c0 : w.cell? ⟨g, 0, none⟩ = some (.map (some b)) := h1.cell 0
    have hbl := hm.lt
    obtain ⟨w1, hrg, hR, f1⟩ := hm.range (P := Try.prog) (t := 43) Try.underlying43
    have hall := sumL_all hd.nod
    have hmn : ((mapD D).map Prod.fst).Nodup := by unfold mapD; rw [List.map_map]; exact hd.nod
    go_enter Try.func15, Try.ntmps15
    go_wp2
    go_loopw [3] (fun h wr => ∃ (n : Nat) (Left : List (Key × Nat)), h = .int .i64 (n : Int) ∧ RangeIs KV PV wr w.heap.size b (mapD D) Left ∧ Fr w.heap.size [] w wr ∧ Hid (n + sumL D Left = usedN D) ∧ (Left.map Prod.fst).Nodup ∧ (∀ z ∈ Left, z ∈ mapD D)) (fun _ wr => leftN wr w.heap.size b)
    case atStart => exact ⟨0, mapD D, rfl, hR, f1, by show 0 + _ = _; omega, hmn, fun z hz => hz⟩
    case round =>
      obtain ⟨n, Left, rfl, hR1, hF1, hsum, hln, hsub⟩ := hrel
      have hms := hR1.leftN
      rcases hR1.next strEnc 0 with ⟨rfl, hnx⟩ | ⟨d, hdL, w2, hnx, hR2, o2, hent⟩
      · have hn : n = usedN D := by have := hsum.out; simpa [sumL] using this
        subst hn
        go_wp2
        go_ret
        exact ⟨rfl, hF1⟩
      · obtain ⟨e, he, hed⟩ := List.mem_map.1 (hsub d hdL)
        obtain ⟨k, b2⟩ := d
        obtain ⟨rfl, rfl⟩ : e.1 = k ∧ e.2.1 = b2 := by simpa [Prod.ext_iff] using hed
        obtain ⟨h3, h4⟩ := hd.files e he
        have hF2 : Fr w.heap.size [] w w2 := hF1.one o2 (.inr (Nat.le_refl _))
        have c2 : w2.cell? ⟨e.2.1, 0, none⟩ = some (strV e.2.2.bs) := (h3.fr hF2 (hd.lt _ h4) (by simp)).cell 0
        have hsz := size_any w2 e.2.1 e.2.2.bs c2
        have hsf := sum_filter (D := D) hln hdL
        have hke : sizeK D e.1 = e.2.2.bs.length := by simp [sizeK, get_of hd.nod he]
        simp only at hsf hnx hent hR2
        have hR2l := hR2.leftN
        have hfl := filter_key_len hln hdL
        simp only at hfl
        have hs2 := hsum.out
        have hw : IntKind.i64.wrap ((n : Int) + (e.2.2.bs.length : Int)) = ((n + e.2.2.bs.length : Nat) : Int) := by rw [IntWalk.i64_in _ (by omega)]; omega
        unfold PV at hnx hent
        obtain ⟨s, hs⟩ : ∃ s : ByteArray, KV e.1 = .string s := ⟨_, rfl⟩
        rw [hs] at hnx hent
        clear hs
        go_wp2_with (go_at_call 30; (refine hsz.mono ?_); rintro e' w3 ⟨rfl, rfl⟩)
        exact ⟨⟨n + e.2.2.bs.length, _, by go_num, hR2, hF2, Lib.hid (by omega), hln.sublist (List.Sublist.map _ List.filter_sublist), fun z hz => hsub z (List.mem_filter.1 hz).1⟩, by rw [hR2l, hms]; omega⟩
end
end Go.Proofs.Ytcfbbembggnanaa
