/- The reference's padded, and the two functions that tell a sum as a text. -/
import Derived.Test.YtpboclafoccfnaaDoorShaRot
import Derived.Lib.Hide
import Derived.Deep.Cut
import Derived.Deep.RegionHeld3

namespace Go.Proofs.YtpboclafoccfnaaDoor
open Go.RowKit
open Sha
theorem info5 : (Tryd.prog.info? 5).map (fun i => (i.zero, i.size, i.bytes)) = some (some (.int .u8 0), 1, 1) := by kernel_rfl
theorem info5s : (Tryd.prog.info? 5).map (·.size) = some 1 := by kernel_rfl
theorem info23 : (Tryd.prog.info? 23).map (·.size) = some 32 := by kernel_rfl
def strOf : Value → ByteArray
  | .string t => t
  | _ => ByteArray.empty
set_option maxHeartbeats 1000000 in
set_option maxRecDepth 100000 in
theorem padded_any (w : World) (s : ByteArray) (hs : s.size ≤ 1000000) :
    Calls Tryd.prog 18 #[.string s] w fun e w' => (∃ t, e = .returned (.string t) ∧ bl t = padded (bl s)) ∧ Fr w.heap.size [] w w' := by
  obtain ⟨i0, hi, hz0, hz1, hz2⟩ := info_parts info5
  obtain ⟨N, hN⟩ : ∃ N : Int, Hid (N = (s.size : Int) * 8) := ⟨_, rfl⟩
  go_enter Tryd.func18, Tryd.ntmps18
  go_wp2
  go_loop [0] (fun v => ∃ (t : ByteArray) (k : Nat), v = .string t ∧ k ≤ zs s.size ∧ bl t = bl s ++ 128 :: List.replicate k 0) (fun v => zs s.size + s.size + 1 - (strOf v).size)
  case atStart => exact ⟨_, 0, rfl, Nat.zero_le _, by rw [bl_app]; rfl⟩
  case round =>
    obtain ⟨t, k, rfl, hk, ht⟩ := hrel
    have hl : t.size = s.size + 1 + k := by
      have := congrArg List.length ht
      rw [bl_len, List.length_append, bl_len, List.length_cons, List.length_replicate] at this
      omega
    have hzs : zs s.size < 64 := by unfold zs; omega
    have hl' := Lib.hid hl
    have htb : t.size ≤ 2000000 := by omega
    have ht' := Lib.hid ht
    by_cases hlt : k < zs s.size
    · have hne : (((t.size : Int) % 64) != 56) = true := by
        rw [bne_iff_ne]; unfold zs at hlt; omega
      clear hl ht
      go_wp2
      go_round
      case rel => exact ⟨_, k + 1, rfl, by omega, by rw [bl_app, ht'.out, List.replicate_succ', List.append_assoc]; rfl⟩
      case measure =>
        have := hl'.out
        have e : (t ++ (⟨#[0]⟩ : ByteArray)).size = t.size + 1 := by rw [ByteArray.size_append]; rfl
        show zs s.size + s.size + 1 - (t ++ (⟨#[0]⟩ : ByteArray)).size < zs s.size + s.size + 1 - t.size
        omega
    · have hk2 : k = zs s.size := by omega
      have hne : (((t.size : Int) % 64) != 56) = false := by
        rw [hl, hk2]; unfold zs; simp; omega
      have HK := Lib.hid hk2
      clear hl ht hk2 hlt
      go_wp2
      go_loopw [4, 5] (fun v i wr => ∃ k : Nat, k ≤ 8 ∧ i = .int .i64 (7 - (k : Int)) ∧ wr.ownsRow w.heap.size 5 1 v k (((tail8 s.size).take k).map (Value.int .u8)) ∧ Fr w.heap.size [] w wr) (fun _ i _ => (intOf i + 1).toNat)
      case atStart => exact ⟨0, by omega, rfl, World.ownsRow_nil _ _ _ _, Fr.refl _ _ _⟩
      case round =>
        obtain ⟨j, hj, rfl, hown, hf⟩ := hrel
        by_cases hlt : j < 8
        · have hsz := hf.size
          go_wp2_with (first
            | (at_builtin; refine wpList_append_has rfl (.tmp 22) (.tmp 29) 50 rfl w.heap.size 5 i0 (.int .u8 0) 1 1 Tryd.underlying50 hi hz0 hz1 hz2 rfl (by decide) u4 j _ rfl (hown.alloc _) wr.heap.size 1 _ rfl (Has.new _ _ [_]) rfl (fun u hu => by simp at hu; subst hu; rfl) (by unfold maxLen; omega) (by omega) (by simp; omega) ?_; intro v' w1 hown1 hg1 _))
          go_roundw
          case rel =>
            refine ⟨j + 1, by omega, by go_num, ?_, (hf.alloc hsz _).grown hg1 (by simp; omega) (fun q hq => Or.inr (hown.lt q hq).1)⟩
            have e : (tail8 s.size).take (j + 1) = (tail8 s.size).take j ++ [(s.size : Int) * 8 / 2 ^ (8 * (7 - j)) % 256] := by
              have h := tail8_get s.size j hlt
              rw [List.take_add_one, h, show 56 - 8 * j = 8 * (7 - j) by omega, show ((s.size : Int) * 8 % 18446744073709551616) = (s.size : Int) * 8 by omega]; rfl
            rw [e, List.map_append]
            exact hown1
          case measure => simp [intOf]; omega
        · have hj8 : j = 8 := by omega
          rw [hj8, List.take_of_length_le (by rw [tail8_len]; omega)] at hown
          have hcv := run_string_own (P := Tryd.prog) Tryd.underlying50 Tryd.underlying5 Tryd.underlying9 hown
          have hge : 8 ≤ j := by omega
          obtain ⟨S8, HS⟩ : ∃ S8, Hid (S8 = strOfNums (tail8 s.size)) := ⟨_, rfl⟩
          have hs8 : S8.size ≤ 8 := by rw [HS.out, strOfNums_size, tail8_len]; omega
          rw [← HS.out] at hcv
          clear hj8 hlt
          go_wp2
          go_ret
          refine ⟨⟨t ++ S8, rfl, ?_⟩, hf⟩
          rw [bl_app, ht'.out, HS.out, bl_strOfNums _ (tail8_rng _), padded, HK.out, bl_len, List.append_assoc]
set_option maxHeartbeats 1000000 in
set_option maxRecDepth 100000 in
theorem text_any (w : World) (l : List Int) (hl : l.length = 32) (hr : ∀ x ∈ l, 0 ≤ x ∧ x < 256) :
    Calls Tryd.prog 10 #[.agg (l.map (Value.int .u8)).toArray] w fun e w' => (∃ t, e = .returned (.string t) ∧ bl t = hex l) ∧ Fr w.heap.size [] w w' := by
  obtain ⟨i0, hi, hz0, hz1, hz2⟩ := info_parts info5
  obtain ⟨LA, HL⟩ : ∃ LA, Hid (LA = l.map (Value.int .u8)) := ⟨_, rfl⟩
  rw [← HL.out]
  have hLA : LA.length = 32 := by rw [HL.out, List.length_map, hl]
  have hrg : ∀ W : World, Has W w.heap.size 23 LA → W.rangeAt w.heap.size 0 LA := fun W h => by
    have := h.range 0 32
    rwa [List.drop_zero, List.take_of_length_le (by omega)] at this
  have hi23 : (Tryd.prog.info? 23).map (·.size) = some LA.length := by rw [hLA]; exact info23
  obtain ⟨Z, hZ⟩ : ∃ Z : Array Value, Hid (Z = (List.replicate 64 (Value.int .u8 0)).toArray) := ⟨_, rfl⟩
  have hmk : ∀ w, (Instr.makeSlice 50 (.int .i64 0) (.int .i64 64)).run Tryd.prog w = .ok (.slice (some ⟨w.heap.size, 0, none⟩) 0 64) (w.alloc (.cells Z 5)) := fun w => by rw [hZ.out]; kernel_rfl
  have hZs : Hid (Z.size = 64 * 1) := by rw [hZ.out]; exact (rfl : (List.replicate 64 (Value.int .u8 0)).toArray.size = 64)
  have hLl := Lib.hid hl
  have H1 : Has (w.alloc (.cells LA.toArray 23)) w.heap.size 23 LA := Has.new w 23 LA
  have H2 := hrg _ (H1.alloc (.cells Z 5))
  have hlA := Lib.hid hLA
  clear hl hLA
  go_enter Tryd.func10, Tryd.ntmps10
  go_wp2_with (with_reducible refine wpList_load_mid rfl 23 (.tmp 1) rfl w.heap.size 0 rfl LA _ H2 Tryd.underlying23 rfl hi23 ?_)
  go_loopw [3, 8] (fun v i wr => ∃ k : Nat, k ≤ 32 ∧ i = .int .i64 (k : Int) ∧ wr.ownsRow (w.heap.size + 1) 5 1 v (2 * k) ((hex (l.take k)).map (Value.int .u8)) ∧ Fr w.heap.size [] w wr ∧ w.heap.size + 2 ≤ wr.heap.size) (fun _ i _ => 32 - (intOf i).toNat)
  case atStart => exact ⟨0, by omega, rfl, (by have h0 := World.ownsRow_made (base := w.heap.size + 1) (size := 1) (e := 5) (w.alloc (.cells LA.toArray 23)) Z 64 (by simp) (by unfold maxLen; omega) hZs.out; rw [World.size_alloc] at h0; exact h0), ((Fr.refl _ _ _).alloc (Nat.le_refl _) _).alloc (by simp) _, by simp⟩
  case round =>
    obtain ⟨k, hk, rfl, hown, hf, hsz⟩ := hrel
    by_cases hlt : k < 32
    · obtain ⟨x, hx⟩ : ∃ x, Hid (x = l.getD k 0) := ⟨_, rfl⟩
      have hxr : 0 ≤ x ∧ x < 256 := by
        rw [hx.out, List.getD_eq_getElem?_getD, List.getElem?_eq_getElem (by rw [hLl.out]; exact hlt)]
        exact hr _ (List.getElem_mem _)
      obtain ⟨x0, x1⟩ := hxr
      have hix : ∀ W, (Instr.index 23 (.agg LA.toArray) (.int .i64 (k : Int))).run Tryd.prog W = .ok (.int .u8 x) W := by
        obtain ⟨i5, hi5, hs5⟩ := Option.map_eq_some_iff.1 info5s
        exact run_index_arr LA.toArray k _ Tryd.underlying23 hi5 hs5 Tryd.underlying5 rfl hlt (by
          rw [HL.out, hx.out]
          have hml : k < l.length := by rw [hLl.out]; exact hlt
          simp only [List.getElem?_toArray, List.getElem?_map, List.getElem?_eq_getElem hml, List.getD_eq_getElem?_getD]
          rfl)
      have hand := u8_and15 x x0 x1
      have d0 : x / 16 < 16 := by omega
      have d1 : 0 ≤ x / 16 := by omega
      have d2 : x % 16 < 16 := by omega
      have d3 : 0 ≤ x % 16 := by omega
      go_wp2
      go_region_held3 (fun _ => True) (exact trivial)
        (first | (refine step_append_has (by rfl) (.tmp 11) (.tmp 18) 50 (by rfl) (w.heap.size + 1) 5 i0 (.int .u8 0) 1 1 Tryd.underlying50 hi hz0 hz1 hz2 rfl (by decide) u3 (2 * k) _ (by rfl) (hown.alloc _) wr.heap.size 2 _ (by rfl) (Has.new _ _ [_, _]) rfl (fun u hu => by simp at hu; rcases hu with rfl | rfl <;> rfl) (by unfold maxLen; omega) (by omega) (by simp; omega) ?_; intro v' w1 hown1 hg1 _))
      all_goals
        go_wp2
        go_roundw
        case rel =>
          have hs1 := hg1.size
          refine ⟨k + 1, by omega, by go_num, ?_, (hf.alloc (by omega) _).drew.grown hg1 (by simp; omega) (fun q hq => Or.inr (by have := (hown.lt q hq).1; omega)), by simp at hs1; omega⟩
          rw [hex_take _ _ (by rw [hLl.out]; exact hlt), List.map_append, ← hx.out, ← dig_eq _ d1 d0, ← dig_eq _ d3 d2]
          exact hown1
        case measure => simp [intOf]; omega
    · have hk32 : k = 32 := by omega
      rw [hk32, List.take_of_length_le (by rw [hLl.out]; omega)] at hown
      have hcv := run_string_own (P := Tryd.prog) Tryd.underlying50 Tryd.underlying5 Tryd.underlying9 hown
      have hge : 32 ≤ k := by omega
      clear hk32 hlt
      obtain ⟨S8, HS⟩ : ∃ S8, Hid (S8 = strOfNums (hex l)) := ⟨_, rfl⟩
      rw [← HS.out] at hcv
      go_wp2
      go_ret
      refine ⟨⟨S8, rfl, ?_⟩, hf⟩
      rw [HS.out, bl_strOfNums _ (hex_rng _)]
end Go.Proofs.YtpboclafoccfnaaDoor
