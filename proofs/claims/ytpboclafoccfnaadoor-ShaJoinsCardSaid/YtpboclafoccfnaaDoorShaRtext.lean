/- The reference's Text. -/
import Derived.Test.YtpboclafoccfnaaDoorShaPad
import Derived.Deep.RegionHeld3
import Derived.Lib.Hide

namespace Go.Proofs.YtpboclafoccfnaaDoor
open Go.RowKit
open Sha
set_option maxHeartbeats 1000000 in
set_option maxRecDepth 100000 in
theorem rtext_any (w : World) (l : List Int) (hl : l.length = 32) (hr : ∀ x ∈ l, 0 ≤ x ∧ x < 256) :
    Calls Tryd.prog 11 #[.agg (l.map (Value.int .u8)).toArray] w fun e w' => (∃ t, e = .returned (.string t) ∧ bl t = hex l) ∧ Fr w.heap.size [] w w' := by
  obtain ⟨i0, hi, hz0, hz1, hz2⟩ := info_parts info5
  obtain ⟨LA, HL⟩ : ∃ LA, Hid (LA = l.map (Value.int .u8)) := ⟨_, rfl⟩
  rw [← HL.out]
  have hLl := Lib.hid hl
  have H1 : Has (w.alloc (.cells LA.toArray 23)) w.heap.size 23 LA := Has.new w 23 LA
  clear hl
  go_enter Tryd.func11, Tryd.ntmps11
  go_wp2
  go_loopw [4, 5] (fun v i wr => ∃ k : Nat, k ≤ 32 ∧ i = .int .i64 (k : Int) ∧ wr.ownsRow (w.heap.size + 1) 5 1 v (2 * k) ((hex (l.take k)).map (Value.int .u8)) ∧ Has wr w.heap.size 23 LA ∧ Fr w.heap.size [] w wr) (fun _ i _ => 32 - (intOf i).toNat)
  case atStart => exact ⟨0, by omega, rfl, World.ownsRow_nil _ _ _ _, H1, (Fr.refl _ _ _).alloc (Nat.le_refl _) _⟩
  case round =>
    obtain ⟨k, hk, rfl, hown, hh, hf⟩ := hrel
    have hsz := hh.lt
    by_cases hlt : k < 32
    · obtain ⟨x, hx⟩ : ∃ x, Hid (x = l.getD k 0) := ⟨_, rfl⟩
      have hlk : k < l.length := by rw [hLl.out]; exact hlt
      have hxr : 0 ≤ x ∧ x < 256 := by
        rw [hx.out, List.getD_eq_getElem?_getD, List.getElem?_eq_getElem hlk]
        exact hr _ (List.getElem_mem _)
      obtain ⟨x0, x1⟩ := hxr
      have hc : wr.cell? ⟨w.heap.size, k, none⟩ = some (.int .u8 x) := by
        rw [hh.cell, HL.out, hx.out, List.getElem?_map, List.getElem?_eq_getElem hlk, List.getD_eq_getElem?_getD, List.getElem?_eq_getElem hlk]
        rfl
      have d0 : x / 16 < 16 := by omega
      have d1 : 0 ≤ x / 16 := by omega
      have d2 : x % 16 < 16 := by omega
      have d3 : 0 ≤ x % 16 := by omega
      have t1 : x.tdiv 16 = x / 16 := Int.tdiv_eq_ediv_of_nonneg x0
      have t2 : x.tmod 16 = x % 16 := Int.tmod_eq_emod_of_nonneg x0
      have t3 : x / 16 % 256 = x / 16 := by omega
      have t4 : IntKind.u8.wrap (x / 16) = x / 16 := by rw [IntKind.wrap_u8]; omega
      have k1 : (k : Int) < 32 := by omega
      have k0 : (0 : Int) ≤ (k : Int) := by omega
      go_wp2
      have hne : some w.heap.size ≠ u4.ownBlock := fun e => by have := (hown.lt _ e.symm).1; omega
      go_region_held3 (fun w' => w'.cell? ⟨w.heap.size, k, none⟩ = some (.int .u8 x)) (first | go_keep | (exact World.grownBy.cell (by assumption) (by go_keep) hne))
        (first | (refine step_append_has (by rfl) (.tmp 10) (.tmp 23) 50 (by rfl) (w.heap.size + 1) 5 i0 (.int .u8 0) 1 1 Tryd.underlying50 hi hz0 hz1 hz2 rfl (by decide) u4 (2 * k) _ (by rfl) (hown.alloc _) wr.heap.size 2 _ (by rfl) (Has.new _ _ [_, _]) rfl (fun u hu => by simp at hu; rcases hu with rfl | rfl <;> rfl) (by unfold maxLen; omega) (by omega) (by simp; omega) ?_; intro v' w1 hown1 hg1 _))
      all_goals
        go_wp2
        go_roundw
        case rel =>
          refine ⟨k + 1, by omega, by go_num, ?_, ?_, (hf.alloc (by omega) _).drew.grown hg1 (by simp; omega) (fun q hq => Or.inr (by have := (hown.lt q hq).1; omega))⟩
          · rw [hex_take _ _ hlk, List.map_append, ← hx.out, ← dig_eq _ d1 d0, ← dig_eq _ d3 d2]
            exact hown1
          · exact (hg1.block _ (by simp; omega) hne).trans (hh.alloc _)
        case measure => simp [intOf]; omega
    · have hk32 : k = 32 := by omega
      rw [hk32, List.take_of_length_le (by rw [hLl.out]; omega)] at hown
      have hcv := run_string_own (P := Tryd.prog) Tryd.underlying50 Tryd.underlying5 Tryd.underlying9 hown
      have hge : 32 ≤ k := by omega
      clear hk32 hlt
      obtain ⟨S8, HS⟩ : ∃ S8, Hid (S8 = strOfNums (hex l)) := ⟨_, rfl⟩
      rw [← HS.out] at hcv
      go_wp2
      go_ret
      refine ⟨⟨S8, rfl, ?_⟩, hf⟩
      rw [HS.out, bl_strOfNums _ (hex_rng _)]
end Go.Proofs.YtpboclafoccfnaaDoor
