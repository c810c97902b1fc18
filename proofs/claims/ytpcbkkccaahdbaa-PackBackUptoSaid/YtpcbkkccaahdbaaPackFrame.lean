/- A frame is made; a frame is taken apart. -/
import Derived.Test.YtpcbkkccaahdbaaPackCrc
import Derived.Test.YtpcbkkccaahdbaaPackTaken
namespace Go.Proofs.Ytpcbkkccaahdbaa
open Go.RowKit
namespace Pk
def frameB (l : List UInt8) : List UInt8 := textB l ++ fourB (crc l)
def unframeL (l : List UInt8) : List UInt8 × Nat × Int :=
  if (numE l 0).2.2 ≠ 0 then ([], 0, (numE l 0).2.2) else if 65536 < (numE l 0).1 then ([], 0, 12) else
  let a := rawE (numE l 0).2.1 0 (numE l 0).1
  let c := rawE a.2.1 a.2.2 4
  if c.2.2 ≠ 0 then ([], 0, c.2.2) else if c.1 ≠ fourB (crc a.1) then ([], 0, 13) else (a.1, l.length - c.2.1.length, 0)
theorem crc_lt (l : List UInt8) : crc l < 4294967296 := by unfold crc; omega
end Pk
open Pk
set_option maxHeartbeats 1000000 in
set_option maxRecDepth 100000 in
theorem frame_ok (w : World) (S : ByteArray) (hs : S.size ≤ 65536) :
    Calls Try.prog 19 #[.string S] w fun r w' => r = .returned (.tuple #[.string (mkS (frameB S.data.toList)), .int .i64 0]) ∧ Fr w.heap.size [] w w' := by
  obtain ⟨K, hK⟩ : ∃ K, Hid (K = crc S.data.toList) := ⟨_, rfl⟩
  have hchk : ∀ W, Calls Try.prog 39 #[.string S] W fun r w' => r = .returned (.int .u32 (K : Int)) ∧ W = w' := fun W => by rw [hK.out]; exact check_any W S (by omega)
  obtain ⟨F4, hF4⟩ : ∃ F4 : ByteArray, Hid (F4 = ⟨(fourB K).toArray⟩) := ⟨_, rfl⟩
  have hfour : ∀ W, Calls Try.prog 38 #[.int .u32 (K : Int)] W fun r w' => r = .returned (.string F4) ∧ Fr W.heap.size [] W w' := fun W => by rw [hF4.out]; exact four_any W K (by rw [hK.out]; exact crc_lt _)
  have hF4s : F4.data.toList.length = 4 := by rw [hF4.out]; rfl
  have hl10 := numB_len10 (n := S.size) (by omega)
  have htl : (textB S.data.toList).length ≤ 65600 := by
    unfold textB; rw [List.length_append, show S.data.toList.length = S.size by simp]; omega
  have hlen : ([] : List UInt8).length + (textB S.data.toList).length + 20 ≤ 140737488355328 := by simp; omega
  have hlen2 : ([] ++ textB S.data.toList).length + F4.data.toList.length + 20 ≤ 140737488355328 := by rw [List.nil_append]; omega
  clear htl hl10
  go_enter Try.func19, Try.ntmps19
  go_wp2_with (first
    | (go_at_call 15; (refine (wBytes_any w.heap.size _ w4 h4).mono ?_); rintro e w5 ⟨rfl, h5, f5⟩)
    | (go_at_call 28; (refine (wRaw_one w.heap.size _ w3 F4 _ rfl h3 (Nat.le_refl _) hlen2).mono ?_); rintro e w4 ⟨rfl, h4, f4⟩)
    | (go_at_call 38; (refine (hfour w1).mono ?_); rintro e w3 ⟨rfl, f3⟩; have h3 := h1.fr f3 (Nat.le_refl _) (by simp))
    | (go_at_call 39; (refine (hchk w1).mono ?_); rintro e w2 ⟨rfl, rfl⟩)
    | (go_at_call 12; (refine (wText_one w.heap.size [] _ S _ (by simp) (Bld.new w 32) (Nat.le_refl _) hlen).mono ?_); rintro e w1 ⟨rfl, h1, f1⟩))
  go_ret2
  refine ⟨?_, ((((((Fr.refl w.heap.size [] w).alloc (Nat.le_refl _) _).below f1.below (Nat.le_refl _)).trans (f3.mono ?_ (by simp))).below f4.below (Nat.le_refl _)).below f5.below (Nat.le_refl _))⟩
  · have e : F4.data.toList = fourB (crc S.data.toList) := by rw [hF4.out, hK.out]
    unfold frameB mkS
    rw [← e]
    rfl
  · have := f1.below.size
    simp at this
    omega
set_option maxHeartbeats 1000000 in
set_option maxRecDepth 100000 in
theorem frame_big (w : World) (S : ByteArray) (hs : 65536 < S.size) :
    Calls Try.prog 19 #[.string S] w fun r w' => r = .returned (.tuple #[.string ByteArray.empty, .int .i64 12]) ∧ w = w' := by
  go_enter Try.func19, Try.ntmps19
  go_wp2
  go_ret2
  exact ⟨rfl, rfl⟩
theorem leftL (w : World) (b : Nat) (l : List UInt8) (e : Int) (h : RdL w b l e) :
    Calls Try.prog 18 #[.pointer (some ⟨b, 0, none⟩)] w fun r w' => r = .returned (.int .i64 (l.length : Int)) ∧ w = w' := by
  have := left_any w b (mkS l) e h
  rw [mkS_size] at this
  exact this
theorem ne_bool {S T : ByteArray} (h : S ≠ T) : (S.toList == T.toList) = false := by
  rw [beq_eq_false_iff_ne, Lib.toList_data, Lib.toList_data]
  intro e
  exact h (ByteArray.ext (Array.toList_inj.1 e))
theorem eq_bool (S : ByteArray) : (S.toList == S.toList) = true := by simp
set_option maxHeartbeats 2000000 in
set_option maxRecDepth 100000 in
theorem unframe_any (w : World) (l : List UInt8) (hl : l.length ≤ 4611686018427387904) :
    Calls Try.prog 20 #[.string (mkS l)] w fun r w' => r = .returned (.tuple #[.string (mkS (unframeL l).1), .int .i64 ((unframeL l).2.1 : Int), .int .i64 (unframeL l).2.2]) ∧ Fr w.heap.size [] w w' := by
  have hN := numE_len l 0
  have hnum := fun W b (h : RdL W b l 0) => numE_any W b l 0 h
  have hlt := numE_lt l 0
  unfold unframeL
  obtain ⟨q, hq⟩ : ∃ q, Hid (q = numE l 0) := ⟨_, rfl⟩
  rw [← hq.out] at hN hlt ⊢
  simp only [← hq.out] at hnum
  obtain ⟨n, r, e⟩ := q
  simp only at hN hnum hlt ⊢
  by_cases he : e = 0
  · subst he
    rw [if_neg (by simp)]
    by_cases hn : 65536 < n
    · rw [if_pos hn]
      have hni : (65536 : Int) < n := by omega
      go_enter Try.func20, Try.ntmps20
      go_wp2_with (first
        | (go_at_call 36; (refine (good_yes w2 _ (mkS r) h2).mono ?_); rintro e w3 ⟨rfl, rfl⟩)
        | (go_at_call 27; (refine (hnum w1 _ h1).mono ?_); rintro e w2 ⟨rfl, h2, o2⟩)
        | (go_at_call 16; (refine (read_any w (mkS l)).mono ?_); rintro e w1 ⟨rfl, h1, f1⟩))
      go_ret3
      exact ⟨rfl, f1.one o2 (.inr (Nat.le_refl _))⟩
    · rw [if_neg hn]
      have hni : ¬ (65536 : Int) < n := by omega
      have hw64 : wrap64 (n : Int) = n := by unfold wrap64; omega
      by_cases hA : n ≤ r.length
      · by_cases hC : 4 ≤ (r.drop n).length
        · have ha : rawE r 0 n = (r.take n, r.drop n, 0) := by unfold rawE; rw [if_pos rfl, if_pos hA]
          have hc : rawE (r.drop n) 0 4 = ((r.drop n).take 4, (r.drop n).drop 4, 0) := by unfold rawE; rw [if_pos rfl, if_pos hC]
          simp only [ha, hc]
          rw [if_neg (by simp)]
          obtain ⟨K, hK⟩ : ∃ K, Hid (K = crc (r.take n)) := ⟨_, rfl⟩
          rw [← hK.out]
          obtain ⟨B1, hB1⟩ : ∃ B1, Hid (B1 = mkS (r.take n)) := ⟨_, rfl⟩
          obtain ⟨C1, hC1⟩ : ∃ C1, Hid (C1 = mkS ((r.drop n).take 4)) := ⟨_, rfl⟩
          have hchk : ∀ W, Calls Try.prog 39 #[.string B1] W fun r w' => r = .returned (.int .u32 (K : Int)) ∧ W = w' := fun W => by
            have := check_any W B1 (by rw [hB1.out, mkS_size, List.length_take]; omega)
            rw [hK.out]; rw [hB1.out, mkS_list] at this; rw [hB1.out]; exact this
          obtain ⟨F4, hF4⟩ : ∃ F4 : ByteArray, Hid (F4 = mkS (fourB K)) := ⟨_, rfl⟩
          have hfour : ∀ W, Calls Try.prog 38 #[.int .u32 (K : Int)] W fun r w' => r = .returned (.string F4) ∧ Fr W.heap.size [] W w' := fun W => by rw [hF4.out]; exact four_any W K (by rw [hK.out]; exact crc_lt _)
          have hr1 := fun W b (h : RdL W b r 0) => rawL_ok W b r n h hA
          have hr2 := fun W b (h : RdL W b (r.drop n) 0) => rawL_ok W b (r.drop n) 4 h hC
          rw [← hB1.out] at hr1
          rw [← hC1.out] at hr2
          clear ha hc
          have hms : (mkS l).size = l.length := mkS_size l
          by_cases heq : C1 = F4
          · have heq2 : (r.drop n).take 4 = fourB K := by
              have := congrArg (fun S : ByteArray => S.data.toList) heq
              simp only [hC1.out, hF4.out, mkS_list] at this
              exact this
            rw [if_neg (by rw [heq2]; simp)]
            simp only [← hB1.out]
            subst heq
            have hdl : ((r.drop n).drop 4).length ≤ l.length := by simp only [List.length_drop]; omega
            clear heq2
            go_enter Try.func20, Try.ntmps20
            go_wp2_with (first
              | (go_at_call 18; (refine (leftL w6 _ _ _ h6).mono ?_); rintro e w8 ⟨rfl, rfl⟩)
              | (go_at_call 38; (refine (hfour w4).mono ?_); rintro e w6 ⟨rfl, f6⟩; have h6 : RdL w6 _ _ _ := h4.fr f6 h4.lt (by simp))
              | (go_at_call 39; (refine (hchk w4).mono ?_); rintro e w5 ⟨rfl, rfl⟩)
              | (go_at_call 36; (refine (good_yes w4 _ _ h4).mono ?_); rintro e w7 ⟨rfl, rfl⟩)
              | (go_at_call 40; (refine (hr2 w3 _ h3).mono ?_); rintro e w4 ⟨rfl, h4, o4⟩)
              | (go_at_call 40; (refine (hr1 w2 _ h2).mono ?_); rintro e w3 ⟨rfl, h3, o3⟩)
              | (go_at_call 36; (refine (good_yes w2 _ (mkS r) h2).mono ?_); rintro e w3 ⟨rfl, rfl⟩)
              | (go_at_call 27; (refine (hnum w1 _ h1).mono ?_); rintro e w2 ⟨rfl, h2, o2⟩)
              | (go_at_call 16; (refine (read_any w (mkS l)).mono ?_); rintro e w1 ⟨rfl, h1, f1⟩))
            go_ret3
            refine ⟨?_, (((f1.one o2 (.inr (Nat.le_refl _))).one o3 (.inr (Nat.le_refl _))).one o4 (.inr (Nat.le_refl _))).trans (f6.mono ?_ (by simp))⟩
            · have e : ((l.length - ((r.drop n).drop 4).length : Nat) : Int) = (l.length : Int) - ((r.length - (n + 4) : Nat) : Int) := by
                simp only [List.length_drop] at hdl ⊢; omega
              rw [e]
              rfl
            · have := f1.size; have := o2.size; have := o3.size; have := o4.size; omega
          · have hnb := ne_bool heq
            have heq2 : (r.drop n).take 4 ≠ fourB K := fun h => heq (by rw [hC1.out, hF4.out, h])
            rw [if_pos heq2]
            clear heq heq2
            go_enter Try.func20, Try.ntmps20
            go_wp2_with (first
              | (go_at_call 38; (refine (hfour w4).mono ?_); rintro e w6 ⟨rfl, f6⟩; have h6 : RdL w6 _ _ _ := h4.fr f6 h4.lt (by simp))
              | (go_at_call 39; (refine (hchk w4).mono ?_); rintro e w5 ⟨rfl, rfl⟩)
              | (go_at_call 36; (refine (good_yes w4 _ _ h4).mono ?_); rintro e w7 ⟨rfl, rfl⟩)
              | (go_at_call 40; (refine (hr2 w3 _ h3).mono ?_); rintro e w4 ⟨rfl, h4, o4⟩)
              | (go_at_call 40; (refine (hr1 w2 _ h2).mono ?_); rintro e w3 ⟨rfl, h3, o3⟩)
              | (go_at_call 36; (refine (good_yes w2 _ (mkS r) h2).mono ?_); rintro e w3 ⟨rfl, rfl⟩)
              | (go_at_call 27; (refine (hnum w1 _ h1).mono ?_); rintro e w2 ⟨rfl, h2, o2⟩)
              | (go_at_call 16; (refine (read_any w (mkS l)).mono ?_); rintro e w1 ⟨rfl, h1, f1⟩))
            go_ret3
            refine ⟨rfl, (((f1.one o2 (.inr (Nat.le_refl _))).one o3 (.inr (Nat.le_refl _))).one o4 (.inr (Nat.le_refl _))).trans (f6.mono ?_ (by simp))⟩
            have := f1.size; have := o2.size; have := o3.size; have := o4.size; omega
        · have ha : rawE r 0 n = (r.take n, r.drop n, 0) := by unfold rawE; rw [if_pos rfl, if_pos hA]
          have hc : rawE (r.drop n) 0 4 = ([], [], 10) := by unfold rawE; rw [if_pos rfl, if_neg hC]
          simp only [ha, hc]
          rw [if_pos (by decide)]
          have hr1 := fun W b (h : RdL W b r 0) => rawL_ok W b r n h hA
          have hr2 := fun W b (h : RdL W b (r.drop n) 0) => rawL_short W b (r.drop n) 4 h (by omega) (by decide)
          clear ha hc
          go_enter Try.func20, Try.ntmps20
          go_wp2_with (first
              | (go_at_call 36; (refine (good_no w4 _ _ 10 h4 (by decide)).mono ?_); rintro e w7 ⟨rfl, rfl⟩; obtain ⟨c0, c1, z0, z1⟩ := Rd.cells h4)
              | (go_at_call 40; (refine (hr2 w3 _ h3).mono ?_); rintro e w4 ⟨rfl, h4, o4⟩)
              | (go_at_call 40; (refine (hr1 w2 _ h2).mono ?_); rintro e w3 ⟨rfl, h3, o3⟩)
              | (go_at_call 36; (refine (good_yes w2 _ (mkS r) h2).mono ?_); rintro e w3 ⟨rfl, rfl⟩)
              | (go_at_call 27; (refine (hnum w1 _ h1).mono ?_); rintro e w2 ⟨rfl, h2, o2⟩)
              | (go_at_call 16; (refine (read_any w (mkS l)).mono ?_); rintro e w1 ⟨rfl, h1, f1⟩))
          go_quiet (fail)
          go_wp2
          go_ret3
          exact ⟨rfl, (((f1.one o2 (.inr (Nat.le_refl _))).one o3 (.inr (Nat.le_refl _))).one o4 (.inr (Nat.le_refl _))).drewN _⟩
      · have ha : rawE r 0 n = ([], [], 10) := by unfold rawE; rw [if_pos rfl, if_neg hA]
        have hc : rawE [] 10 4 = ([], [], 10) := rfl
        simp only [ha, hc]
        rw [if_pos (by decide)]
        have hr1 := fun W b (h : RdL W b r 0) => rawL_short W b r n h (by omega) (by omega)
        have hr2 := fun W b (h : RdL W b [] 10) => rawE_any W b [] 10 4 h (by decide)
        simp only [hc] at hr2
        clear ha hc
        go_enter Try.func20, Try.ntmps20
        go_wp2_with (first
              | (go_at_call 36; (refine (good_no w4 _ _ 10 h4 (by decide)).mono ?_); rintro e w7 ⟨rfl, rfl⟩; obtain ⟨c0, c1, z0, z1⟩ := Rd.cells h4)
              | (go_at_call 40; (refine (hr2 w3 _ h3).mono ?_); rintro e w4 ⟨rfl, h4, o4⟩)
              | (go_at_call 40; (refine (hr1 w2 _ h2).mono ?_); rintro e w3 ⟨rfl, h3, o3⟩)
              | (go_at_call 36; (refine (good_yes w2 _ (mkS r) h2).mono ?_); rintro e w3 ⟨rfl, rfl⟩)
              | (go_at_call 27; (refine (hnum w1 _ h1).mono ?_); rintro e w2 ⟨rfl, h2, o2⟩)
              | (go_at_call 16; (refine (read_any w (mkS l)).mono ?_); rintro e w1 ⟨rfl, h1, f1⟩))
        go_quiet (fail)
        go_wp2
        go_ret3
        exact ⟨rfl, (((f1.one o2 (.inr (Nat.le_refl _))).one o3 (.inr (Nat.le_refl _))).one o4 (.inr (Nat.le_refl _))).drewN _⟩
  · rw [if_pos he]
    go_enter Try.func20, Try.ntmps20
    go_wp2_with (first
        | (go_at_call 36; (refine (good_no w2 _ (mkS r) e h2 he).mono ?_); rintro e w3 ⟨rfl, rfl⟩; obtain ⟨c0, c1, z0, z1⟩ := Rd.cells h2)
        | (go_at_call 27; (refine (hnum w1 _ h1).mono ?_); rintro e w2 ⟨rfl, h2, o2⟩)
        | (go_at_call 16; (refine (read_any w (mkS l)).mono ?_); rintro e w1 ⟨rfl, h1, f1⟩))
    go_quiet (fail)
    go_wp2
    go_ret3
    exact ⟨rfl, (f1.one o2 (.inr (Nat.le_refl _))).drewN _⟩
end Go.Proofs.Ytpcbkkccaahdbaa
