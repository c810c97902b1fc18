/- ShaSums answers true, whatever the text. -/
import Derived.Test.YtpboclafoccfnaaDoorShaEq
import Derived.Test.YtpboclafoccfnaaDoorClass
namespace Go.Proofs.YtpboclafoccfnaaDoor
open Go.RowKit
open Sha
theorem Has.whole {w : World} {g : Nat} {t : TypeId} {cs : List Value} (h : Has w g t cs) : w.rangeAt g 0 cs := by
  have := h.range 0 cs.length
  rwa [List.drop_zero, List.take_of_length_le (Nat.le_refl _)] at this
theorem keep23 {w a b : World} {g : Nat} {cs : List Value} (hf : Fr a.heap.size [] a b) : (Fr w.heap.size [] w a ∧ Has a g 23 cs) → Fr w.heap.size [] w b ∧ Has b g 23 cs := fun ⟨h, hr⟩ =>
  ⟨h.trans (hf.mono h.size (by simp)), hr.fr hf hr.lt (by simp)⟩
theorem ssum_one (w : World) (S : ByteArray) (hK : Kst w) (hs : S.size ≤ 1000000) : Calls Tryd.prog 8 #[.slice (some ⟨w.heap.size, 0, none⟩) 1 1] (w.alloc (.cells #[.string S] 9)) fun e w' => e = .returned (.agg ((digest (bl S)).map (Value.int .u8)).toArray) ∧ Fr w.heap.size [] w w' := by
  have := hK.2
  have hcat : cat [S] = bl S := by simp [cat]
  refine (ssum_any _ _ 1 [S] (.inr ⟨w.heap.size, 0, rfl, by simp, by simp, ?_⟩) (hK.alloc _) (by simp) (by rw [hcat, bl_len]; exact hs)).mono ?_
  · intro k hk
    have h := Has.new w 9 [.string S]
    rw [h.cell]
    rcases k with _ | k
    · rfl
    · simp at hk
  · rintro e w3 ⟨h3, hf3⟩
    rw [hcat] at h3
    exact ⟨h3, ((Fr.refl _ _ _).alloc (Nat.le_refl _) _).trans (hf3.mono (by simp) (by simp))⟩
set_option maxHeartbeats 1000000 in
set_option maxRecDepth 100000 in
theorem sums_any (w : World) (s : ByteArray) (hK : Kst w) : Calls Tryd.prog 3 #[.string s] w fun e w' => e = .returned (.bool true) ∧ Fr w.heap.size [] w w' := by
  have hk0 := hK.2
  go_enter Tryd.func3, Tryd.ntmps3
  go_upto_region 4 with (first
    | (go_at_call 7; (refine (awake_any w hK).mono ?_); rintro e w1 ⟨rfl, hf1⟩; have hK1 := hK.fr hf1 hk0 (by simp)))
  all_goals
    go_upto_region 5 with (first
      | (go_at_call 8; (refine (ssum_one w1 _ hK1 (by first | omega | (simp; omega))).mono ?_); rintro e w2 ⟨rfl, hf2⟩; have hF2 := hf1.trans (hf2.mono hf1.size (by simp)))
      | ((with_reducible refine wpList_store_all rfl 23 (.tmp 4) (.tmp 13) rfl w2.heap.size 23 _ _ rfl rfl (Has.new w2 23 _) ?_ (by rw [List.length_map, digest_len]; exact info23) (ones_int _ _) ?_); (rw [List.length_map, digest_len]; rfl); intro w9 h9 o9))
  obtain ⟨T, hT⟩ : ∃ T, T = s.extract 0 5000 := ⟨_, rfl⟩
  have hTs : T.size ≤ 5000 := by rw [hT]; simp; omega
  rw [← hT] at h9 ⊢
  clear hT
  rotate_left
  obtain ⟨T, hT⟩ : ∃ T, T = s := ⟨_, rfl⟩
  have hTs : T.size ≤ 5000 := by rw [hT]; omega
  rw [← hT] at h9 ⊢
  clear hT
  all_goals
    have hF9 := hF2.new hF2.size o9
    clear o9
    have h9r : w9.rangeAt w2.heap.size 0 ((digest (bl T)).map (Value.int .u8)) := h9.whole
    have u23 := Tryd.underlying23
    have hD : ((digest (bl T)).map (Value.int .u8)).length = 32 := by rw [List.length_map, digest_len]
    have i23 : (Tryd.prog.info? 23).map (·.size) = some ((digest (bl T)).map (Value.int .u8)).length := by rw [hD]; exact info23
    have hone := ones_int .u8 (digest (bl T))
    refine wp_region_class (fun W => Fr w.heap.size [] w W ∧ Has W w2.heap.size 23 ((digest (bl T)).map (Value.int .u8))) (by kernel_rfl) (by kernel_rfl) (⟨hF9.drew, h9.drew⟩) ?_
    repeat
      first
        | (refine wpQuiet_skip (by rfl) ?_; try simp only [Act.put, List.setIfInBounds_toArray, List.set_cons_zero, List.set_cons_succ])
        | (refine wpQuiet_take (by rfl) ?_
           apply Exists.intro
           refine ⟨fun W hW => ?_, ?_⟩
           · first
               | (exact quiet_load 23 (.tmp 4) rfl w2.heap.size 0 rfl _ _ hW.2.whole u23 rfl i23; done)
               | (go_simp; done)
               | (go_simp; exact rfl)
               | (go_simp; (try refine ⟨rfl, ?_⟩); (go_at_call 9; exact (rsum_any W T (by omega)).mono fun e w' ⟨he, hf⟩ => ⟨he, keep23 hf hW⟩); done)
               | (go_simp; (try refine ⟨rfl, ?_⟩); (go_at_call 10; exact (text_told W (digest (bl T)) (digest_len _) (digest_rng _)).mono fun e w' ⟨he, hf⟩ => ⟨he, keep23 hf hW⟩); done)
               | (go_simp; (try refine ⟨rfl, ?_⟩); (go_at_call 11; exact (rtext_told W (digest (bl T)) (digest_len _) (digest_rng _)).mono fun e w' ⟨he, hf⟩ => ⟨he, keep23 hf hW⟩); done)
           try simp only [Act.put, List.setIfInBounds_toArray, List.set_cons_zero, List.set_cons_succ])
    refine wpQuiet_nil ?_
    intro wq hq
    all_goals
      go_wp2
      go_ret
      exact ⟨rfl, hq.1⟩
end Go.Proofs.YtpboclafoccfnaaDoor
