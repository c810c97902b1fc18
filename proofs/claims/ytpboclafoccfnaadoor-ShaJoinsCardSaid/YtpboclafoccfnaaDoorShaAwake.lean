/- sha.Sum of parts; the two sums that the chapter tells: awake is true. -/
import Derived.Test.YtpboclafoccfnaaDoorShaSum
import Derived.Test.YtpboclafoccfnaaDoorShaRtext
import Derived.Test.YtpboclafoccfnaaDoorShaRsum
import Derived.Lib.Hide
namespace Go.Proofs.YtpboclafoccfnaaDoor
open Go.RowKit
open Sha
set_option maxHeartbeats 1000000 in
set_option maxRecDepth 100000 in
theorem ssum_any (w : World) (A : Option Addr) (c : Nat) (ps : List ByteArray) (hp : Parts w w.heap.size A ps) (hK : Kst w) (hn : ps.length ≤ 140737488355328) (hsz : (cat ps).length ≤ 1000000) :
    Calls Tryd.prog 8 #[.slice A ps.length c] w fun e w' => e = .returned (.agg ((digest (cat ps)).map (Value.int .u8)).toArray) ∧ Fr w.heap.size [] w w' := by
  have hk0 := hK.2
  obtain ⟨DA, HDA⟩ : ∃ DA, Hid (DA = (digest (cat ps)).map (Value.int .u8)) := ⟨_, rfl⟩
  have hlA : DA.length = 32 := by rw [HDA.out, List.length_map]; exact bytesOf_len _
  have hi23 : (Tryd.prog.info? 23).map (·.size) = some DA.length := by rw [hlA]; exact info23
  have hone : ∀ v ∈ DA, v.oneCell' = true := by rw [HDA.out]; exact ints_oneCell _ _
  have HlA := Lib.hid hlA
  clear hlA
  go_enter Tryd.func8, Tryd.ntmps8
  go_upto_region 2 with (fail)
  obtain ⟨W0, hW0⟩ : ∃ W0, (w.alloc (.cells (List.replicate 32 (Value.int .u8 0)).toArray 23)).alloc (.cells hzero.toArray 34) = W0 := ⟨_, rfl⟩
  have hz0' : W0.heap.size = w.heap.size + 2 := by rw [← hW0]; simp
  have hO : Has W0 w.heap.size 23 (List.replicate 32 (Value.int .u8 0)) := by rw [← hW0]; exact (Has.new _ _ _).alloc _
  have hC : HashIs W0 (w.heap.size + 1) [] := by rw [← hW0]; exact .inr ⟨rfl, Has.new' _ _ _ (by simp)⟩
  have hF : Fr w.heap.size [] w W0 := by rw [← hW0]; exact ((Fr.refl _ _ _).alloc (Nat.le_refl _) _).alloc (by simp) _
  have hK0 : Kst W0 := hK.fr hF hk0 (by simp)
  have hP0 : Parts W0 (w.heap.size + 1) A ps := hp.fr hF (Nat.le_refl _) (by simp) (fun b hb _ => by omega)
  refine wp_world hW0 ?_
  have HZ := Lib.hid hz0'
  clear hW0 hK hz0'
  go_wp2_with (first
    | (go_at_call 12; refine (write_any W0 (w.heap.size + 1) [] A c ps hC hP0 hK0 hn (by simpa using Nat.le_trans hsz (by decide))).mono ?_; rintro e w1 ⟨rfl, hC1, hf1⟩; have hO1 := hO.fr hf1 (by rw [HZ.out]; omega) (by simp); have hF1 := hF.trans (hf1.mono (by rw [HZ.out]; omega) (by simp)); have hK1 := hK0.fr hf1 (by rw [HZ.out]; omega) (by simp))
    | (go_at_call 13; refine (hsum_any w1 _ (cat ps) (.inr ⟨_, rfl, by simpa using hC1⟩) hK1 hsz).mono ?_; (rw [← HDA.out]); rintro e w2 ⟨rfl, hf2⟩; have hO2 := hO1.fr hf2 hO1.lt (by simp); have hF2 := hF1.trans (hf2.mono hF1.size (by simp)))
    | ((with_reducible refine wpList_store_all rfl 23 (.tmp 2) (.tmp 6) rfl w.heap.size 23 _ DA rfl rfl hO2 ?_ hi23 hone ?_); (rw [HlA.out]; rfl); intro w9 h9 o9))
  refine bodyPost_ret (v := .agg DA.toArray) (results_cell_row rfl _ _ w.heap.size 23 _ _ _ rfl h9 Tryd.underlying23 rfl hi23) rfl ⟨by rw [HDA.out], hF2.one o9 (Or.inr (Nat.le_refl _))⟩
theorem text_lit (w : World) (l : List Int) (C : ByteArray) (hl : l.length = 32) (hr : ∀ x ∈ l, 0 ≤ x ∧ x < 256) (hC : hex l = bl C) :
    Calls Tryd.prog 10 #[.agg (l.map (Value.int .u8)).toArray] w fun e w' => e = .returned (.string C) ∧ Fr w.heap.size [] w w' :=
  (text_any w l hl hr).mono fun _ _ ⟨⟨t, he, ht⟩, hf⟩ => ⟨by rw [he, bl_inj (ht.trans hC)], hf⟩
theorem rtext_lit (w : World) (l : List Int) (C : ByteArray) (hl : l.length = 32) (hr : ∀ x ∈ l, 0 ≤ x ∧ x < 256) (hC : hex l = bl C) :
    Calls Tryd.prog 11 #[.agg (l.map (Value.int .u8)).toArray] w fun e w' => e = .returned (.string C) ∧ Fr w.heap.size [] w w' :=
  (rtext_any w l hl hr).mono fun _ _ ⟨⟨t, he, ht⟩, hf⟩ => ⟨by rw [he, bl_inj (ht.trans hC)], hf⟩
set_option maxRecDepth 100000 in
theorem known0 : hex (digest []) = bl (ByteArray.mk #[101, 51, 98, 48, 99, 52, 52, 50, 57, 56, 102, 99, 49, 99, 49, 52, 57, 97, 102, 98, 102, 52, 99, 56, 57, 57, 54, 102, 98, 57, 50, 52, 50, 55, 97, 101, 52, 49, 101, 52, 54, 52, 57, 98, 57, 51, 52, 99, 97, 52, 57, 53, 57, 57, 49, 98, 55, 56, 53, 50, 98, 56, 53, 53]) := by decide +kernel
set_option maxRecDepth 100000 in
theorem known1 : hex (digest [97, 98, 99]) = bl (ByteArray.mk #[98, 97, 55, 56, 49, 54, 98, 102, 56, 102, 48, 49, 99, 102, 101, 97, 52, 49, 52, 49, 52, 48, 100, 101, 53, 100, 97, 101, 50, 50, 50, 51, 98, 48, 48, 51, 54, 49, 97, 51, 57, 54, 49, 55, 55, 97, 57, 99, 98, 52, 49, 48, 102, 102, 54, 49, 102, 50, 48, 48, 49, 53, 97, 100]) := by decide +kernel
theorem text0 (w : World) : Calls Tryd.prog 10 #[.agg ((digest (cat [])).map (Value.int .u8)).toArray] w fun e w' => e = .returned (.string (ByteArray.mk #[101, 51, 98, 48, 99, 52, 52, 50, 57, 56, 102, 99, 49, 99, 49, 52, 57, 97, 102, 98, 102, 52, 99, 56, 57, 57, 54, 102, 98, 57, 50, 52, 50, 55, 97, 101, 52, 49, 101, 52, 54, 52, 57, 98, 57, 51, 52, 99, 97, 52, 57, 53, 57, 57, 49, 98, 55, 56, 53, 50, 98, 56, 53, 53])) ∧ Fr w.heap.size [] w w' :=
  text_lit w (digest []) (ByteArray.mk #[101, 51, 98, 48, 99, 52, 52, 50, 57, 56, 102, 99, 49, 99, 49, 52, 57, 97, 102, 98, 102, 52, 99, 56, 57, 57, 54, 102, 98, 57, 50, 52, 50, 55, 97, 101, 52, 49, 101, 52, 54, 52, 57, 98, 57, 51, 52, 99, 97, 52, 57, 53, 57, 57, 49, 98, 55, 56, 53, 50, 98, 56, 53, 53]) (bytesOf_len _) (bytesOf_rng _) known0
theorem text1 (w : World) : Calls Tryd.prog 10 #[.agg ((digest [97, 98, 99]).map (Value.int .u8)).toArray] w fun e w' => e = .returned (.string (ByteArray.mk #[98, 97, 55, 56, 49, 54, 98, 102, 56, 102, 48, 49, 99, 102, 101, 97, 52, 49, 52, 49, 52, 48, 100, 101, 53, 100, 97, 101, 50, 50, 50, 51, 98, 48, 48, 51, 54, 49, 97, 51, 57, 54, 49, 55, 55, 97, 57, 99, 98, 52, 49, 48, 102, 102, 54, 49, 102, 50, 48, 48, 49, 53, 97, 100])) ∧ Fr w.heap.size [] w w' :=
  text_lit w (digest [97, 98, 99]) (ByteArray.mk #[98, 97, 55, 56, 49, 54, 98, 102, 56, 102, 48, 49, 99, 102, 101, 97, 52, 49, 52, 49, 52, 48, 100, 101, 53, 100, 97, 101, 50, 50, 50, 51, 98, 48, 48, 51, 54, 49, 97, 51, 57, 54, 49, 55, 55, 97, 57, 99, 98, 52, 49, 48, 102, 102, 54, 49, 102, 50, 48, 48, 49, 53, 97, 100]) (bytesOf_len _) (bytesOf_rng _) known1
set_option maxHeartbeats 1000000 in
set_option maxRecDepth 100000 in
theorem awake_any (w : World) (hK : Kst w) : Calls Tryd.prog 7 #[] w fun e w' => e = .returned (.bool true) ∧ Fr w.heap.size [] w w' := by
  have hk0 := hK.2
  have hx : ∀ w2 : World, Kst w2 → Calls Tryd.prog 8 #[.slice (some ⟨w2.heap.size, 0, none⟩) 3 3] (w2.alloc (.cells #[.string (ByteArray.mk #[97]), .string (ByteArray.mk #[]), .string (ByteArray.mk #[98, 99])] 9)) fun e w' => e = .returned (.agg ((digest [97, 98, 99]).map (Value.int .u8)).toArray) ∧ Fr w2.heap.size [] w2 w' := by
    intro w2 hK2
    have := hK2.2
    have hcat : cat [ByteArray.mk #[97], ByteArray.mk #[], ByteArray.mk #[98, 99]] = [97, 98, 99] := by decide
    refine (ssum_any _ _ 3 [ByteArray.mk #[97], ByteArray.mk #[], ByteArray.mk #[98, 99]] (.inr ⟨w2.heap.size, 0, rfl, by simp, by simp, ?_⟩) (hK2.alloc _) (by decide) (by rw [hcat]; decide)).mono ?_
    · intro k hk
      have h := Has.new w2 9 [.string (ByteArray.mk #[97]), .string (ByteArray.mk #[]), .string (ByteArray.mk #[98, 99])]
      rw [h.cell]
      rcases k with _ | _ | _ | k
      · rfl
      · rfl
      · rfl
      · simp at hk; omega
    · rintro e w3 ⟨h3, hf3⟩
      rw [hcat] at h3
      exact ⟨h3, ((Fr.refl _ _ _).alloc (Nat.le_refl _) _).trans (hf3.mono (by simp) (by simp))⟩
  go_enter Tryd.func7, Tryd.ntmps7
  go_wp2_with (first
    | (go_at_call 8; (refine (hx w2 hK2).mono ?_); rintro e w3 ⟨rfl, hf3⟩; have hF3 := hF2.trans (hf3.mono hF2.size (by simp)))
    | (go_at_call 8; (refine (ssum_any w none 0 [] (.inl rfl) hK (by decide) (by decide)).mono ?_); rintro e w1 ⟨rfl, hf1⟩; have hK1 := hK.fr hf1 hk0 (by simp))
    | (go_at_call 10; (refine (text1 w3).mono ?_); rintro e w4 ⟨rfl, hf4⟩; have hF4 := hF3.trans (hf4.mono hF3.size (by simp)))
    | (go_at_call 10; (refine (text0 w1).mono ?_); rintro e w2 ⟨rfl, hf2⟩; have hF2 := hf1.trans (hf2.mono hf1.size (by simp)); have hK2 := hK.fr hF2 hk0 (by simp)))
  exact bodyPost_ret (v := .bool true) (by simp [results, Tryd.results7, go_sem]) rfl ⟨rfl, hF4⟩
end Go.Proofs.YtpboclafoccfnaaDoor
