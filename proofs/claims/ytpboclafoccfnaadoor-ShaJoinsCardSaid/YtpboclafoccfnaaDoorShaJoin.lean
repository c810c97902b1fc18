/- Join of both chapters: the sum of the sums' bytes one after the other. -/
import Derived.Test.YtpboclafoccfnaaDoorShaParts
namespace Go.Proofs.YtpboclafoccfnaaDoor
open Go.RowKit
open Sha
/-- A slice of sums. -/
def Sums (w : World) (A : Option Addr) (ls : List (List Int)) : Prop := (∀ l ∈ ls, l.length = 32 ∧ ∀ x ∈ l, 0 ≤ x ∧ x < 256) ∧
  (ls = [] ∨ ∃ b o, A = some ⟨b, o, none⟩ ∧ b < w.heap.size ∧ w.rangeAt b o (ls.flatten.map (Value.int .u8)))
theorem flat_at (ls : List (List Int)) (h : ∀ l ∈ ls, l.length = 32) (k : Nat) (hk : k < ls.length) : (ls.flatten.drop (k * 32)).take 32 = ls[k] := by
  induction ls generalizing k with
  | nil => simp at hk
  | cons l ls ih =>
    have hl : l.length = 32 := h l (by simp)
    rcases k with _ | k
    · rw [List.flatten_cons, Nat.zero_mul, List.drop_zero, ← hl, List.take_left]
      rfl
    · rw [List.flatten_cons, show (k + 1) * 32 = l.length + k * 32 by omega, List.drop_append]
      rw [show l.drop (l.length + k * 32) = [] from List.drop_eq_nil_of_le (by omega), List.nil_append, Nat.add_sub_cancel_left]
      exact ih (fun l hl => h l (by simp [hl])) k (by simpa using hk)
theorem flat_len (ls : List (List Int)) (h : ∀ l ∈ ls, l.length = 32) : ls.flatten.length = ls.length * 32 := by
  induction ls with
  | nil => rfl
  | cons l ls ih => rw [List.flatten_cons, List.length_append, h l (by simp), ih fun l hl => h l (by simp [hl]), List.length_cons]; omega
theorem flat_take (ls : List (List Int)) (k : Nat) (hk : k < ls.length) : (ls.take (k + 1)).flatten = (ls.take k).flatten ++ ls[k] := by
  rw [List.take_succ_eq_append_getElem hk, List.flatten_append]
  simp
theorem range_sub {w : World} {b o : Nat} {cs : List Value} (h : w.rangeAt b o cs) (i n : Nat) : w.rangeAt b (o + i) ((cs.drop i).take n) := fun j v hv => by
  rw [List.getElem?_take] at hv
  split at hv
  · rw [List.getElem?_drop] at hv
    rw [Nat.add_assoc]
    exact h (i + j) v hv
  · cases hv
theorem Sums.at {w : World} {A : Option Addr} {ls : List (List Int)} (h : Sums w A ls) (k : Nat) (hk : k < ls.length) :
    ∃ b o, A = some ⟨b, o, none⟩ ∧ b < w.heap.size ∧ w.rangeAt b (o + k * 32) (ls[k].map (Value.int .u8)) := by
  rcases h.2 with rfl | ⟨b, o, hA, hb, hr⟩
  · simp at hk
  · refine ⟨b, o, hA, hb, ?_⟩
    have := range_sub hr (k * 32) 32
    rwa [← List.map_drop, ← List.map_take, flat_at ls (fun l hl => (h.1 l hl).1) k hk] at this
theorem range_fr {w w' : World} {B b o : Nat} {S : List Nat} {cs : List Value} (h : w.rangeAt b o cs) (hf : Fr B S w w') (hb : b < B) (hs : b ∉ S) : w'.rangeAt b o cs := fun j v hv => by
  rw [hf.cell (p := ⟨b, o + j, none⟩) hb hs]
  exact h j v hv
theorem range_str {w : World} {b o : Nat} {l : List Int} (h : w.rangeAt b o (l.map (Value.int .u8))) (hl : l.length = 32) (c : Nat) : (convert 50 9 (.slice (some ⟨b, o, none⟩) 32 c)).run Tryd.prog w = .ok (.string (strOfNums l)) w :=
  run_convert_bytes_arg w 50 5 Tryd.underlying50 Tryd.underlying5 b o 32 c l hl (fun i hi => by
    rw [h i (.int .u8 (l.getD i 0)) (by rw [List.getElem?_map, List.getD_eq_getElem?_getD, List.getElem?_eq_getElem (by omega)]; rfl)]) 9 Tryd.underlying9
set_option maxHeartbeats 1000000 in
set_option maxRecDepth 100000 in
theorem join_any (w : World) (A : Option Addr) (c : Nat) (ls : List (List Int)) (hp : Sums w A ls) (hK : Kst w) (hn : ls.length ≤ 60) :
    Calls Tryd.prog 15 #[.slice A ls.length c] w fun e w' => e = .returned (.agg ((digest ls.flatten).map (Value.int .u8)).toArray) ∧ Fr w.heap.size [] w w' := by
  have hk0 := hK.2
  go_enter Tryd.func15, Tryd.ntmps15
  go_upto_region 3 with (fail)
  obtain ⟨W0, hW0⟩ : ∃ W0, (w.alloc (.cells (List.replicate 32 (Value.int .u8 0)).toArray 23)).alloc (.cells hzero.toArray 34) = W0 := ⟨_, rfl⟩
  have hz0' : W0.heap.size = w.heap.size + 2 := by rw [← hW0]; simp
  have hO : Has W0 w.heap.size 23 (List.replicate 32 (Value.int .u8 0)) := by rw [← hW0]; exact (Has.new _ _ _).alloc _
  have hC : HashIs W0 (w.heap.size + 1) [] := by rw [← hW0]; exact .inr ⟨rfl, Has.new' _ _ _ (by simp)⟩
  have hF : Fr w.heap.size [] w W0 := by rw [← hW0]; exact ((Fr.refl _ _ _).alloc (Nat.le_refl _) _).alloc (by simp) _
  refine wp_world hW0 ?_
  have HZ := Lib.hid hz0'
  clear hW0 hz0'
  go_loopw [8] (fun i wr => ∃ k : Nat, k ≤ ls.length ∧ i = .int .i64 (k : Int) ∧ HashIs wr (w.heap.size + 1) (ls.take k).flatten ∧ Has wr w.heap.size 23 (List.replicate 32 (Value.int .u8 0)) ∧ Fr w.heap.size [] w wr) (fun i _ => ls.length - (intOf i).toNat)
  case atStart => exact ⟨0, by omega, rfl, hC, hO, hF⟩
  case round =>
    obtain ⟨k, hk, rfl, hH, hO, hF⟩ := hrel
    by_cases hlt : k < ls.length
    · obtain ⟨l, hl⟩ : ∃ l, Hid (l = ls[k]'hlt) := ⟨ls[k]'hlt, rfl⟩
      obtain ⟨b, o, hA, hb, hr⟩ := hp.at k hlt
      rw [← hl.out] at hr
      have hr1 := range_fr hr hF hb (by simp)
      subst hA
      have hki : (k : Int) < ls.length := by omega
      obtain ⟨LA, HL⟩ : ∃ LA, Hid (LA = l.map (Value.int .u8)) := ⟨_, rfl⟩
      obtain ⟨T, HT⟩ : ∃ T, Hid (T = strOfNums l) := ⟨_, rfl⟩
      have hl32 : l.length = 32 := by rw [hl.out]; exact (hp.1 _ (List.getElem_mem _)).1
      have hlr : ∀ x ∈ l, 0 ≤ x ∧ x < 256 := by rw [hl.out]; exact (hp.1 _ (List.getElem_mem _)).2
      have hbT : bl T = l := by rw [HT.out]; exact bl_strOfNums _ hlr
      have hTs : T.size = 32 := by rw [← bl_len, hbT, hl32]
      have hst : ∀ W : World, W.rangeAt wr.heap.size 0 LA → (convert 50 9 (.slice (some ⟨wr.heap.size, 0, none⟩) 32 32)).run Tryd.prog W = .ok (.string T) W := fun W h => by
        rw [HT.out]; exact range_str (by rw [← HL.out]; exact h) hl32 32
      rw [← HL.out] at hr1
      have hlA : LA.length = 32 := by rw [HL.out, List.length_map, hl32]
      have hi23 : (Tryd.prog.info? 23).map (·.size) = some LA.length := by rw [hlA]; exact info23
      have hone : ∀ v ∈ LA, v.oneCell' = true := by rw [HL.out]; exact ints_oneCell _ _
      have HlA := Lib.hid hlA
      have Hl32 := Lib.hid hl32
      have HbT := Lib.hid hbT
      have hfl : (ls.take k).flatten.length + T.size ≤ 2000000 := by
        rw [flat_len _ (fun l h => (hp.1 l (List.mem_of_mem_take h)).1), List.length_take, hTs]; omega
      have hsz := hF.size
      have hGl := hH.lt
      clear hlA hl32 hlr hbT hTs hr
      go_wp2_with (first
        | (go_at_call 12; (refine (write_one w9 T (w.heap.size + 1) _ hH9 hK9 hfl).mono ?_); rintro e w3 ⟨rfl, hH3, hf3⟩; rw [HbT.out] at hH3)
        | ((with_reducible refine wpList_store_all rfl 23 (.tmp 5) (.tmp 11) rfl wr.heap.size 23 _ LA rfl rfl (Has.new wr 23 _) ?_ hi23 hone ?_); (rw [HlA.out]; rfl); intro w9 h9 o9; have hcv := hst w9 h9.whole; have hfa : Fr wr.heap.size [] wr w9 := (Fr.refl wr.heap.size [] wr).new (Nat.le_refl _) o9; have hH9 := hH.fr hfa hGl (by simp); have hF9 := hF.trans (hfa.mono hsz (by simp)); have hK9 := hK.fr hF9 hk0 (by simp); have hO9 := hO.fr hfa (by omega) (by simp))
        | (with_reducible refine wpList_load_mid rfl 23 (.tmp 10) rfl b (o + k * 32) rfl LA _ hr1 Tryd.underlying23 rfl hi23 ?_))
      go_roundw
      case rel =>
        refine ⟨k + 1, by omega, by go_num, ?_, ?_, ?_⟩
        · rw [flat_take _ _ hlt, ← hl.out]; exact hH3
        · exact hO9.fr hf3 hO9.lt (by simp)
        · exact hF9.trans (hf3.mono hF9.size (fun q h h2 => by rw [List.mem_singleton] at h; omega))
      case measure => simp [intOf]; omega
    · have hkn : k = ls.length := by omega
      rw [hkn, List.take_length] at hH
      have hki : ¬ ((k : Int) < ls.length) := by omega
      have hKr := hK.fr hF hk0 (by simp)
      have hfl : ls.flatten.length ≤ 1000000 := by rw [flat_len _ (fun l h => (hp.1 l h).1)]; omega
      obtain ⟨DA, HDA⟩ : ∃ DA, Hid (DA = (digest ls.flatten).map (Value.int .u8)) := ⟨_, rfl⟩
      have hlA : DA.length = 32 := by rw [HDA.out, List.length_map]; exact digest_len _
      have hi23 : (Tryd.prog.info? 23).map (·.size) = some DA.length := by rw [hlA]; exact info23
      have hone : ∀ v ∈ DA, v.oneCell' = true := by rw [HDA.out]; exact ints_oneCell _ _
      have HlA := Lib.hid hlA
      clear hlA hlt
      go_wp2_with (first
        | (go_at_call 13; (refine (hsum_any wr _ ls.flatten (.inr ⟨_, rfl, hH⟩) hKr hfl).mono ?_); (rw [← HDA.out]); rintro e w2 ⟨rfl, hf2⟩; have hO2 := hO.fr hf2 hO.lt (by simp); have hF2 := hF.trans (hf2.mono hF.size (by simp)))
        | ((with_reducible refine wpList_store_all rfl 23 (.tmp 2) (.tmp 17) rfl w.heap.size 23 _ DA rfl rfl hO2 ?_ hi23 hone ?_); (rw [HlA.out]; rfl); intro w9 h9 o9))
      refine bodyPost_ret (v := .agg DA.toArray) (results_cell_row rfl _ _ w.heap.size 23 _ _ _ rfl h9 Tryd.underlying23 rfl hi23) rfl ⟨by rw [HDA.out], hF2.one o9 (Or.inr (Nat.le_refl _))⟩
set_option maxHeartbeats 1000000 in
set_option maxRecDepth 100000 in
theorem rjoin_any (w : World) (A : Option Addr) (c : Nat) (ls : List (List Int)) (hp : Sums w A ls) (hn : ls.length ≤ 60) :
    Calls Tryd.prog 16 #[.slice A ls.length c] w fun e w' => e = .returned (.agg ((digest ls.flatten).map (Value.int .u8)).toArray) ∧ Fr w.heap.size [] w w' := by
  go_enter Tryd.func16, Tryd.ntmps16
  go_upto_region 3 with (fail)
  obtain ⟨W0, hW0⟩ : ∃ W0, (w.alloc (.cells (List.replicate 32 (Value.int .u8 0)).toArray 23)) = W0 := ⟨_, rfl⟩
  have hO : Has W0 w.heap.size 23 (List.replicate 32 (Value.int .u8 0)) := by rw [← hW0]; exact Has.new _ _ _
  have hF : Fr w.heap.size [] w W0 := by rw [← hW0]; exact (Fr.refl _ _ _).alloc (Nat.le_refl _) _
  refine wp_world hW0 ?_
  clear hW0
  go_loopw [3, 4] (fun all i wr => ∃ (k : Nat) (S : ByteArray), k ≤ ls.length ∧ i = .int .i64 (k : Int) ∧ all = .string S ∧ bl S = (ls.take k).flatten ∧ Has wr w.heap.size 23 (List.replicate 32 (Value.int .u8 0)) ∧ Fr w.heap.size [] w wr) (fun _ i _ => ls.length - (intOf i).toNat)
  case atStart => exact ⟨0, ⟨#[]⟩, by omega, rfl, rfl, rfl, hO, hF⟩
  case round =>
    clear hO hF
    obtain ⟨k, S, hk, rfl, rfl, hS, hO, hF⟩ := hrel
    have hSs : S.size ≤ 1920 := by
      rw [← bl_len, hS, flat_len _ (fun l h => (hp.1 l (List.mem_of_mem_take h)).1), List.length_take]; omega
    by_cases hlt : k < ls.length
    · obtain ⟨l, hl⟩ : ∃ l, Hid (l = ls[k]'hlt) := ⟨ls[k]'hlt, rfl⟩
      obtain ⟨b, o, hA, hb, hr⟩ := hp.at k hlt
      rw [← hl.out] at hr
      have hr1 := range_fr hr hF hb (by simp)
      subst hA
      have hki : (k : Int) < ls.length := by omega
      obtain ⟨T, HT⟩ : ∃ T, Hid (T = strOfNums l) := ⟨_, rfl⟩
      have hl32 : l.length = 32 := by rw [hl.out]; exact (hp.1 _ (List.getElem_mem _)).1
      have hlr : ∀ x ∈ l, 0 ≤ x ∧ x < 256 := by rw [hl.out]; exact (hp.1 _ (List.getElem_mem _)).2
      have hbT : bl T = l := by rw [HT.out]; exact bl_strOfNums _ hlr
      have hTs : T.size = 32 := by rw [← bl_len, hbT, hl32]
      have hcv : (convert 50 9 (.slice (some ⟨b, o + k * 32, none⟩) 32 32)).run Tryd.prog wr = .ok (.string T) wr := by
        rw [HT.out]; exact range_str hr1 hl32 32
      have HbT := Lib.hid hbT
      have Hr1 := Lib.hid hr1
      have HS := Lib.hid hS
      clear hl32 hlr hbT hr hr1 hS
      go_wp2
      go_roundw
      case rel =>
        refine ⟨k + 1, S ++ T, by omega, by go_num, rfl, ?_, hO, hF⟩
        rw [bl_app, HS.out, HbT.out, flat_take _ _ hlt, ← hl.out]
      case measure => simp [intOf]; omega
    · have hkn : k = ls.length := by omega
      rw [hkn, List.take_length] at hS
      have hki : ¬ ((k : Int) < ls.length) := by omega
      obtain ⟨DA, HDA⟩ : ∃ DA, Hid (DA = (digest (bl S)).map (Value.int .u8)) := ⟨_, rfl⟩
      have hlA : DA.length = 32 := by rw [HDA.out, List.length_map]; exact digest_len _
      have hi23 : (Tryd.prog.info? 23).map (·.size) = some DA.length := by rw [hlA]; exact info23
      have hone : ∀ v ∈ DA, v.oneCell' = true := by rw [HDA.out]; exact ints_oneCell _ _
      have HlA := Lib.hid hlA
      have HS := Lib.hid hS
      clear hlA hlt hS
      go_wp2_with (first
        | (go_at_call 9; (refine (rsum_any wr S (by omega)).mono ?_); (rw [← HDA.out]); rintro e w2 ⟨rfl, hf2⟩; have hO2 := hO.fr hf2 hO.lt (by simp); have hF2 := hF.trans (hf2.mono hF.size (by simp)))
        | ((with_reducible refine wpList_store_all rfl 23 (.tmp 2) (.tmp 19) rfl w.heap.size 23 _ DA rfl rfl hO2 ?_ hi23 hone ?_); (rw [HlA.out]; rfl); intro w9 h9 o9))
      refine bodyPost_ret (v := .agg DA.toArray) (results_cell_row rfl _ _ w.heap.size 23 _ _ _ rfl h9 Tryd.underlying23 rfl hi23) rfl ⟨by rw [HDA.out, HS.out], hF2.one o9 (Or.inr (Nat.le_refl _))⟩
end Go.Proofs.YtpboclafoccfnaaDoor
