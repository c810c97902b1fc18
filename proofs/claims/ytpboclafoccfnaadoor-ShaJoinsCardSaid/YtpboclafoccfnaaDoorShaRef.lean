/- The reference's parts: its table, its words. -/
import Derived.Test.YtpboclafoccfnaaDoorShaRot
import Derived.Lib.Hide
import Derived.Deep.Cut
namespace Go.Proofs.YtpboclafoccfnaaDoor
open Go.RowKit
open Sha
theorem info44 : (Tryd.prog.info? 44).map (·.size) = some 64 := by kernel_rfl
theorem ints_oneCell (k : IntKind) (l : List Int) : ∀ v ∈ l.map (Value.int k), v.oneCell' = true := by
  intro v hv
  obtain ⟨x, _, rfl⟩ := List.mem_map.1 hv
  rfl
set_option maxHeartbeats 1000000 in
set_option maxRecDepth 100000 in
theorem table_any (w : World) : Calls Tryd.prog 17 #[] w fun e w' => e = .returned (.agg (ks.map (Value.int .u32)).toArray) ∧ Fr w.heap.size [] w w' := by
  have hk : (ks.map (Value.int .u32)).length = 64 := rfl
  have hz : Has (w.alloc (.cells (List.replicate 64 (Value.int .u32 0)).toArray 44)) w.heap.size 44 (List.replicate 64 (Value.int .u32 0)) := Has.new _ _ _
  have hf : Fr w.heap.size [] w (w.alloc (.cells (List.replicate 64 (Value.int .u32 0)).toArray 44)) := (Fr.refl _ _ _).alloc (Nat.le_refl _) _
  go_enter Tryd.func17, Tryd.ntmps17
  go_upto_region 1 with (fail)
  apply wp_region_lit
  iterate 3 go_step
  refine wpList_store_has rfl 44 (.tmp 0) (.tmp 1) rfl w.heap.size 0 44 _ (ks.map (Value.int .u32)) rfl rfl hz (by simp [hk]) (by rw [hk]; exact info44) (ints_oneCell _ _) ?_
  intro w1 h1 o1
  rw [List.take_zero, List.nil_append, List.drop_eq_nil_of_le (by simp [hk]), List.append_nil] at h1
  have hf1 := hf.one o1 (Or.inr (Nat.le_refl _))
  clear hz hf o1 hk
  go_wp2
  refine bodyPost_ret (v := .agg (ks.map (Value.int .u32)).toArray) (results_cell_row rfl _ _ w.heap.size 44 _ _ _ rfl h1 Tryd.underlying44 rfl info44) rfl ⟨rfl, hf1⟩
theorem rot_lit (x : Int) (n : Int) (w : World) (h1 : 0 ≤ n) (h2 : n ≤ 32) :
    Calls Tryd.prog 20 #[.int .u32 x, .int .i64 n] w fun e w' => e = .returned (.int .u32 (Sha.rotr x n.toNat)) ∧ w' = w :=
  (rot_any x n w h1 h2).mono fun _ _ h => ⟨h.1, h.2.symm⟩
set_option maxHeartbeats 1000000 in
set_option maxRecDepth 100000 in
theorem words_any (w : World) (b : ByteArray) (hb : b.size = 64) :
    Calls Tryd.prog 19 #[.string b] w fun e w' => e = .returned (.agg ((sched (bl b)).map (Value.int .u32)).toArray) ∧ Fr w.heap.size [] w w' := by
  have HB := Lib.hid hb
  have hb2 : 64 ≤ b.size := by omega
  clear hb
  go_enter Tryd.func19, Tryd.ntmps19
  go_wp2
  go_loopw [4] (fun v wr => ∃ k : Nat, k ≤ 64 ∧ v = .int .i64 k ∧ Has wr (w.heap.size + 1) 44 ((pcells (bl b) k).map (Value.int .u32)) ∧ Has wr w.heap.size 44 (List.replicate 64 (Value.int .u32 0)) ∧ Fr w.heap.size [] w wr) (fun v _ => 64 - (intOf v).toNat)
  case atStart =>
    refine ⟨0, by omega, rfl, ?_, ?_, ((Fr.refl _ _ _).alloc (Nat.le_refl _) _).alloc (by simp) _⟩
    · rw [pcells_start, List.map_replicate]
      have := Has.new (w.alloc (.cells (List.replicate 64 (Value.int .u32 0)).toArray 44)) 44 (List.replicate 64 (Value.int .u32 0))
      rw [World.size_alloc] at this
      exact this
    · exact (Has.new w 44 (List.replicate 64 (Value.int .u32 0))).alloc _
  case round =>
    obtain ⟨k, hk, rfl, hw, hr, hf⟩ := hrel
    by_cases hlt : k < 64
    · have hc : wr.cell? ⟨w.heap.size + 1, k / 4, none⟩ = some (.int .u32 (pv (bl b) (k / 4) (k % 4))) := by
        rw [hw.cell, List.getElem?_map, pcells_get _ _ _ (by omega), show min 4 (k - 4 * (k / 4)) = k % 4 by omega]; rfl
      have hz := hw.frozen (k / 4)
      have i0 : (0 : Int) ≤ (k : Int) / 4 := by omega
      have i1 : (k : Int) / 4 < 64 := by omega
      have i2 : ((k : Int) / 4).toNat = k / 4 := by omega
      have j0 : (k : Int) < (b.size : Int) := by omega
      go_wp2
      go_region
      go_wp2
      go_roundw
      case rel =>
        refine ⟨k + 1, by omega, by go_num, ?_, (hr.far (by simp) _).drew, (hf.setCell (Or.inr (by simp)) _).drew⟩
        have h3 := hw.set (k / 4) (.int .u32 (pv (bl b) (k / 4) (k % 4) * 256 + (bl b).getD k 0))
        rw [← List.map_set, pcells_set _ _ hlt] at h3
        refine (Has.val h3 ?_).drew
        have h4 := pv_rng (bl b) (bl_rng b) (k / 4) (k % 4) (by omega)
        have h5 := bl_rng b k
        rw [bl_get b k (by omega)] at h5 ⊢
        omega
      case measure => simp [intOf]; omega
    · have h64 : k = 64 := by omega
      rw [h64, pcells_end] at hw
      have hkge : 64 ≤ k := by omega
      clear h64
      obtain ⟨wo, rfl⟩ : ∃ wo : World, wo = wr := ⟨_, rfl⟩
      go_wp2
      go_loopw [5] (fun v wr => ∃ n : Nat, 16 ≤ n ∧ n ≤ 64 ∧ v = .int .i64 (n : Int) ∧ Has wr (w.heap.size + 1) 44 (pad (more (first (bl b) 16) (n - 16))) ∧ Has wr w.heap.size 44 (List.replicate 64 (Value.int .u32 0)) ∧ Fr w.heap.size [] w wr) (fun v _ => 64 - (intOf v).toNat)
      case atStart => exact ⟨16, by omega, by omega, rfl, hw, hr, hf⟩
      case round =>
        obtain ⟨n, hn0, hn, rfl, hw1, hr1, hf1⟩ := hrel
        by_cases hlt : n < 64
        · obtain ⟨L, HL⟩ : ∃ L, Hid (L = more (first (bl b) 16) (n - 16)) := ⟨_, rfl⟩
          have hL : L.length = n := by rw [HL.out, more_len, first_len]; omega
          rw [← HL.out] at hw1
          have hc15 : wr.cell? ⟨w.heap.size + 1, n - 15, none⟩ = some (.int .u32 (L.getD (n - 15) 0)) := by rw [hw1.cell]; exact pad_get _ _ (by omega)
          have hc2 : wr.cell? ⟨w.heap.size + 1, n - 2, none⟩ = some (.int .u32 (L.getD (n - 2) 0)) := by rw [hw1.cell]; exact pad_get _ _ (by omega)
          have hc16 : wr.cell? ⟨w.heap.size + 1, n - 16, none⟩ = some (.int .u32 (L.getD (n - 16) 0)) := by rw [hw1.cell]; exact pad_get _ _ (by omega)
          have hc7 : wr.cell? ⟨w.heap.size + 1, n - 7, none⟩ = some (.int .u32 (L.getD (n - 7) 0)) := by rw [hw1.cell]; exact pad_get _ _ (by omega)
          have hc0 := hw1.cellD n (by rw [pad_len _ (by omega)]; omega) undef
          have hz := hw1.frozen n
          have hL' := Lib.hid hL
          clear hL
          have y2 : (0 : Int) ≤ (n : Int) - 16 := by omega
          have y3 : (n : Int) - 16 < 64 := by omega
          have y6 : (0 : Int) ≤ (n : Int) - 7 := by omega
          have y7 : (n : Int) - 7 < 64 := by omega
          have y9 : (n : Int) < 64 := by omega
          go_wp2_with (go_at_call 20; refine (rot_any _ _ _ (by decide) (by decide)).mono ?_; rintro e w' ⟨rfl, rfl⟩)
          go_region
          go_wp2
          go_roundw
          case rel =>
            refine ⟨n + 1, by omega, by omega, by go_num, ?_, (hr1.far (by simp) _).drew, (hf1.setCell (Or.inr (by simp)) _).drew⟩
            have hs2 := hw1.set n (.int .u32 (nxt L n))
            have hL := hL'.out
            rw [show (pad L).set n (.int .u32 (nxt L n)) = pad (L ++ [nxt L n]) by rw [← hL]; exact pad_set L _ (by omega)] at hs2
            rw [show n + 1 - 16 = (n - 16) + 1 by omega]
            show Has _ _ _ (pad (more (first (bl b) 16) (n - 16) ++ [nxt (more (first (bl b) 16) (n - 16)) (more (first (bl b) 16) (n - 16)).length]))
            rw [← HL.out, hL]
            refine (Has.val hs2 ?_).drew
            simp only [nxt, s0, s1, List.getD_eq_getElem?_getD]
            omega
          case measure => simp [intOf]; omega
        · have h64 : n = 64 := by omega
          rw [h64] at hw1
          have hnge : 64 ≤ n := by omega
          clear h64 hf hw hr
          have hlen : (sched (bl b)).length = 64 := by unfold sched; rw [more_len, first_len]
          have hw1 : Has wr (w.heap.size + 1) 44 (pad (sched (bl b))) := hw1
          rw [pad_full _ hlen] at hw1
          obtain ⟨LA, HL⟩ : ∃ LA, Hid (LA = (sched (bl b)).map (Value.int .u32)) := ⟨_, rfl⟩
          rw [← HL.out] at hw1
          have hlA : LA.length = 64 := by rw [HL.out, List.length_map, hlen]
          have hi44 : (Tryd.prog.info? 44).map (·.size) = some LA.length := by rw [hlA]; exact info44
          have hone : ∀ v ∈ LA, v.oneCell' = true := by rw [HL.out]; exact ints_oneCell _ _
          have hrg : wr.rangeAt (w.heap.size + 1) 0 LA := by
            have := hw1.range 0 64
            rwa [List.drop_zero, List.take_of_length_le (by omega)] at this
          have HlA := Lib.hid hlA
          clear hlA hlen
          go_wp2_with (first
            | (with_reducible refine wpList_load_mid rfl 44 (.tmp 3) rfl (w.heap.size + 1) 0 rfl LA _ hrg Tryd.underlying44 rfl hi44 ?_)
            | (with_reducible refine wpList_store_has rfl 44 (.tmp 2) (.tmp 70) rfl w.heap.size 0 44 _ LA rfl rfl hr1 (by rw [HlA.out]; simp) hi44 hone ?_; intro w1 h1 o1))
          rw [List.take_zero, List.nil_append, List.drop_eq_nil_of_le (by rw [HlA.out]; simp), List.append_nil] at h1
          refine bodyPost_ret (v := .agg LA.toArray) (results_cell_row rfl _ _ w.heap.size 44 _ _ _ rfl h1 Tryd.underlying44 rfl hi44) rfl ⟨by rw [HL.out], hf1.one o1 (Or.inr (Nat.le_refl _))⟩
end Go.Proofs.YtpboclafoccfnaaDoor
