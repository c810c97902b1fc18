/- ShaNil answers true, whatever the text. -/
import Derived.Test.YtpboclafoccfnaaDoorShaSums

namespace Go.Proofs.YtpboclafoccfnaaDoor
open Go.RowKit
open Sha
set_option maxHeartbeats 1000000 in
theorem write_nil (w : World) (v : Value) : Calls Tryd.prog 12 #[.pointer none, v] w fun e w' => e = .returned (.tuple #[]) ∧ w' = w := by
  go_enter Tryd.func12, Tryd.ntmps12
  go_wp2
  exact bodyPost_ret (v := .tuple #[]) (by simp [results, Tryd.results12, go_sem]) rfl ⟨rfl, rfl⟩
theorem ssum_nil (w : World) (hK : Kst w) : Calls Tryd.prog 8 #[.slice none 0 0] w fun e w' => e = .returned (.agg ((digest []).map (Value.int .u8)).toArray) ∧ Fr w.heap.size [] w w' :=
  ssum_any w none 0 [] (.inl rfl) hK (by decide) (by decide)
theorem parts_one (W : World) (T : ByteArray) (g : Nat) (hg : g < W.heap.size) : Parts (W.alloc (.cells #[.string T] 9)) g (some ⟨W.heap.size, 0, none⟩) [T] := by
  refine .inr ⟨W.heap.size, 0, rfl, by simp, by omega, fun k hk => ?_⟩
  have h := Has.new W 9 [.string T]
  rw [h.cell]
  rcases k with _ | k
  · rfl
  · simp at hk
theorem cat_one (T : ByteArray) : cat [T] = bl T := by simp [cat]
theorem write_one (W : World) (T : ByteArray) (g : Nat) (a : List Int) (h : HashIs W g a) (hK : Kst W) (hs : a.length + T.size ≤ 2000000) :
    Calls Tryd.prog 12 #[.pointer (some ⟨g, 0, none⟩), .slice (some ⟨W.heap.size, 0, none⟩) 1 1] (W.alloc (.cells #[.string T] 9)) fun e w' => e = .returned (.tuple #[]) ∧ HashIs w' g (a ++ bl T) ∧ Fr W.heap.size [g] W w' := by
  have := hK.2
  refine (write_any _ g a (some ⟨W.heap.size, 0, none⟩) 1 [T] (h.fr ((Fr.refl W.heap.size [] W).alloc (Nat.le_refl _) _) h.lt (by simp)) (parts_one W T g h.lt) (hK.alloc _) (by simp) (by rw [cat_one, bl_len]; exact hs)).mono ?_
  rintro e w' ⟨he, hh, hf⟩
  rw [cat_one] at hh
  exact ⟨he, hh, ((Fr.refl _ _ _).alloc (Nat.le_refl _) _).trans (hf.mono (by simp) (fun _ h _ => h))⟩
set_option maxHeartbeats 1000000 in
set_option maxRecDepth 100000 in
theorem nil_any (w : World) (s : ByteArray) (hK : Kst w) : Calls Tryd.prog 4 #[.string s] w fun e w' => e = .returned (.bool true) ∧ Fr w.heap.size [] w w' := by
  have hk0 := hK.2
  go_enter Tryd.func4, Tryd.ntmps4
  go_upto_region 4 with (first
    | (go_at_call 12; refine (write_nil _ _).mono ?_; rintro e w1 ⟨rfl, rfl⟩))
  obtain ⟨W0, hW0⟩ : ∃ W0, (w.alloc (.cells hzero.toArray 34)).alloc (.cells #[.string s] 9) = W0 := ⟨_, rfl⟩
  have hz0 : W0.heap.size = w.heap.size + 2 := by rw [← hW0]; simp
  have hZ : HashIs W0 w.heap.size [] := by rw [← hW0]; exact .inr ⟨rfl, (Has.new _ _ _).alloc _⟩
  have hF : Fr w.heap.size [] w W0 := by rw [← hW0]; exact ((Fr.refl _ _ _).alloc (Nat.le_refl _) _).alloc (by simp) _
  have hK0 : Kst W0 := hK.fr hF hk0 (by simp)
  refine wp_world hW0 ?_
  clear hW0
  have HZ := Lib.hid hz0
  clear hz0
  go_upto_region 6 with (fail)
  obtain ⟨T, hT⟩ : ∃ T, T = s.extract 0 1000 := ⟨_, rfl⟩
  have hTs : T.size ≤ 1000 := by rw [hT]; simp; omega
  rw [← hT]
  clear hT
  rotate_left
  obtain ⟨T, hT⟩ : ∃ T, T = s := ⟨_, rfl⟩
  have hTs : T.size ≤ 1000 := by rw [hT]; omega
  rw [← hT]
  clear hT
  all_goals
    have hTl : (bl T).length ≤ 1000000 := by rw [bl_len]; omega
    go_wp2_with (first
      | (go_at_call 8; (refine (ssum_one w6 T hK6 (by omega)).mono ?_); rintro e w7 ⟨rfl, hf7⟩; have hF7 := hF6.trans (hf7.mono hF6.size (by simp)))
      | (go_at_call 13; (refine (hsum_any w5 _ (bl T) (.inr ⟨_, rfl, hH5⟩) hK5 hTl).mono ?_); rintro e w6 ⟨rfl, hf6⟩; have hF6 := hF5.trans (hf6.mono hF5.size (by simp)); have hK6 := hK.fr hF6 hk0 (by simp))
      | (go_at_call 8; (refine (ssum_nil w4 hK4).mono ?_); rintro e w5 ⟨rfl, hf5⟩; have hF5 := hF4.trans (hf5.mono hF4.size (by simp)); have hK5 := hK.fr hF5 hk0 (by simp); have hH5 := hH4.fr hf5 hH4.lt (by simp))
      | (go_at_call 13; (refine (hsum_any w3 none [] (.inl ⟨rfl, rfl⟩) hK3 (by decide)).mono ?_); rintro e w4 ⟨rfl, hf4⟩; have hF4 := hF3.trans (hf4.mono hF3.size (by simp)); have hK4 := hK.fr hF4 hk0 (by simp); have hH4 := hH3.fr hf4 hH3.lt (by simp))
      | (go_at_call 7; (refine (awake_any w2 hK2).mono ?_); rintro e w3 ⟨rfl, hf3⟩; have hF3 := hF2.trans (hf3.mono hF2.size (by simp)); have hK3 := hK.fr hF3 hk0 (by simp); have hH3 := hH2.fr hf3 hH2.lt (by simp))
      | (go_at_call 12; (refine (write_one W0 T w.heap.size [] hZ hK0 (by simp; omega)).mono ?_); rintro e w2 ⟨rfl, hH2, hf2⟩; rw [List.nil_append] at hH2; have hF2 := hF.trans (hf2.mono (by rw [HZ.out]; omega) (fun k h h2 => by rw [List.mem_singleton] at h; omega)); have hK2 := hK.fr hF2 hk0 (by simp)))
    go_ret
    exact ⟨rfl, hF7⟩
end Go.Proofs.YtpboclafoccfnaaDoor
