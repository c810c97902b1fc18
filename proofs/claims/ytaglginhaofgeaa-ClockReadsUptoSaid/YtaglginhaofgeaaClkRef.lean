/- The reference: Get, Covers, within, Compare, Same, Next. -/
import Derived.Test.YtaglginhaofgeaaClkLaw
import Derived.BigQuiet
namespace Go.Proofs.Ytaglginhaofgeaa
open Go.RowKit Go.Shelf
open Ck Pk
set_option maxHeartbeats 1000000 in
theorem rGet_any (w : World) (v : Value) (ds : List Dot) (ac : Nat) (hds : ds.length ≤ 8796093022208) (hI : ClkIn w v ds) :
    Calls Try.prog 27 #[v, .int .u64 (ac : Int)] w fun e w' => e = .returned (.int .u64 (getN ds ac : Int)) ∧ w = w' := by
  obtain ⟨A, c, rfl, hA⟩ := hI
  go_enter Try.func27, Try.ntmps27
  go_wp2
  go_loop [5, 6] (fun n i => ∃ k : Nat, k ≤ ds.length ∧ i = .int .i64 (k : Int) ∧ n = .int .u64 (getN (ds.take k) ac : Int)) (fun _ i => ds.length - (intOf i).toNat)
  case atStart => exact ⟨0, Nat.zero_le _, rfl, rfl⟩
  case round =>
    obtain ⟨k, hk, rfl, rfl⟩ := hrel
    by_cases hlt : k < ds.length
    · obtain ⟨blk, o, rfl, hblk, hcell⟩ := ARow.at (cells := Dot.cells) (c := 2) hA (fun _ => rfl) (by decide) k hlt
      have a0 := hcell 0 _ rfl
      have a1 := hcell 1 _ rfl
      simp only [Nat.add_zero] at a0
      have hsn : getN (ds.take (k + 1)) ac = stepN ac (getN (ds.take k) ac) ds[k] := by
        rw [List.take_succ_eq_append_getElem hlt, getN_snoc]
      generalize ds[k] = d at a0 a1 hsn
      generalize getN (ds.take k) ac = m at hsn ⊢
      have HS := Lib.hid hsn
      clear hsn hcell
      by_cases he : d.a = ac
      · have t1 : ((d.a : Int) == (ac : Int)) = true := by rw [beq_iff_eq]; omega
        have t2 : (d.a == ac) = true := by rw [beq_iff_eq]; exact he
        by_cases hn : m < d.n
        · have t3 : decide ((m : Int) < (d.n : Int)) = true := by simp; exact hn
          have t4 : decide (m < d.n) = true := by simp; exact hn
          go_wp2
          go_round
          case rel => exact ⟨k + 1, by omega, by go_num, by rw [HS.out]; unfold stepN; rw [if_pos he, Nat.max_eq_right (by omega)]⟩
          case measure => simp [intOf]; omega
        · have t3 : decide ((m : Int) < (d.n : Int)) = false := by simp; omega
          have t4 : decide (m < d.n) = false := by simp; omega
          go_wp2
          go_round
          case rel => exact ⟨k + 1, by omega, by go_num, by rw [HS.out]; unfold stepN; rw [if_pos he, Nat.max_eq_left (by omega)]⟩
          case measure => simp [intOf]; omega
      · have t1 : ((d.a : Int) == (ac : Int)) = false := by rw [beq_eq_false_iff_ne]; omega
        have t2 : (d.a == ac) = false := by rw [beq_eq_false_iff_ne]; exact he
        go_wp2
        go_round
        case rel => exact ⟨k + 1, by omega, by go_num, by rw [HS.out]; unfold stepN; rw [if_neg he]⟩
        case measure => simp [intOf]; omega
    · have hge : ¬ ((k : Int) < ds.length) := by omega
      go_wp2
      go_ret
      exact ⟨by rw [List.take_of_length_le (by omega)]; rfl, rfl⟩
theorem rGet_is (w : World) (v : Value) (ds : List Dot) (ac n : Nat) (hn : getN ds ac = n) (hds : ds.length ≤ 8796093022208) (hI : ClkIn w v ds) :
    Calls Try.prog 27 #[v, .int .u64 (ac : Int)] w fun e w' => e = .returned (.int .u64 (n : Int)) ∧ w' = w :=
  (rGet_any w v ds ac hds hI).mono fun _ _ ⟨h1, h2⟩ => ⟨hn ▸ h1, h2.symm⟩
set_option maxHeartbeats 1000000 in
theorem rCovers_any (w : World) (v : Value) (ds : List Dot) (x : Dot) (hds : ds.length ≤ 8796093022208) (hI : ClkIn w v ds) :
    Calls Try.prog 28 #[v, .agg #[.int .u64 (x.a : Int), .int .u64 (x.n : Int)]] w fun e w' => e = .returned (.bool (coversB ds x)) ∧ Fr w.heap.size [] w w' := by
  obtain ⟨W2, hW2⟩ : ∃ W2, w.alloc (.cells #[.int .u64 (x.a : Int), .int .u64 (x.n : Int)] 27) = W2 := ⟨_, rfl⟩
  have hF : Fr w.heap.size [] w W2 := by rw [← hW2]; exact (Fr.refl _ _ _).alloc (Nat.le_refl _) _
  have hD : Has W2 w.heap.size 27 [.int .u64 (x.a : Int), .int .u64 (x.n : Int)] := by rw [← hW2]; exact Has.new _ _ _
  have hI2 := clkIn_fr hI hF
  obtain ⟨A, c, rfl, _⟩ := hI
  unfold coversB
  obtain ⟨n, hn⟩ : ∃ n, getN ds x.a = n := ⟨_, rfl⟩
  have hg := fun k => rGet_is (W2.drewN k) _ ds x.a n hn hds hI2
  rw [hn]
  have q0 : W2.cell? ⟨w.heap.size, 0, none⟩ = some (.int .u64 (x.a : Int)) := hD.cell 0
  have q1 : W2.cell? ⟨w.heap.size, 1, none⟩ = some (.int .u64 (x.n : Int)) := hD.cell 1
  by_cases h0 : 0 < x.n
  · have t1 : decide (0 < x.n) = true := by simp; exact h0
    go_enter Try.func28, Try.ntmps28
    go_upto_region 1 with (fail)
    clear hW2
    go_quiet ((go_at_call 27; exact Calls.quiet_of_same (hg _)))
    go_wp2
    go_ret
    exact ⟨by simp [h0], hF.drewN nq⟩
  · have t1 : decide (0 < x.n) = false := by simp; omega
    go_enter Try.func28, Try.ntmps28
    go_upto_region 1 with (fail)
    clear hW2
    go_quiet ((go_at_call 27; exact Calls.quiet_of_same (hg _)))
    go_wp2
    go_ret
    exact ⟨by simp [h0], hF.drewN nq⟩
set_option maxHeartbeats 1000000 in
theorem rWithin_any (w : World) (u v : Value) (xs ys : List Dot) (hxs : xs.length ≤ 8796093022208) (hys : ys.length ≤ 8796093022208) (hu : ClkIn w u xs) (hv : ClkIn w v ys) :
    Calls Try.prog 59 #[u, v] w fun e w' => e = .returned (.bool (withinR xs ys)) ∧ Fr w.heap.size [] w w' := by
  obtain ⟨A, c, rfl, hA⟩ := hu
  obtain ⟨A2, c2, rfl, _⟩ := id hv
  obtain ⟨R, hR⟩ : ∃ R, Hid (withinR xs ys = R) := ⟨_, rfl⟩
  rw [hR.out]
  go_enter Try.func59, Try.ntmps59
  go_wp2
  go_loopw [5] (fun i wr => ∃ (k : Nat), k ≤ xs.length ∧ i = .int .i64 (k : Int) ∧ Fr w.heap.size [] w wr ∧ ∀ d ∈ xs.take k, d.n ≤ getN ys d.a) (fun i _ => xs.length - (intOf i).toNat)
  case atStart => exact ⟨0, by omega, rfl, Fr.refl _ _ _, by simp⟩
  case round =>
    obtain ⟨k, hk, rfl, hF, hall⟩ := hrel
    have hA := (hA.fr hF (Nat.le_refl _) (by simp)).mono hF.size
    have hv := clkIn_fr hv hF
    have HALL : Hid (∀ d ∈ xs.take k, d.n ≤ getN ys d.a) := Lib.hid hall
    clear hall
    by_cases hlt : k < xs.length
    · obtain ⟨blk, o, rfl, hblk, hcell⟩ := ARow.at (cells := Dot.cells) (c := 2) hA (fun _ => rfl) (by decide) k hlt
      have a0 := hcell 0 _ rfl
      have a1 := hcell 1 _ rfl
      simp only [Nat.add_zero] at a0
      obtain ⟨d, hd⟩ : ∃ d, xs[k] = d := ⟨_, rfl⟩
      rw [hd] at a0 a1
      have hmem : d ∈ xs := hd ▸ List.getElem_mem hlt
      have htk : xs.take (k + 1) = xs.take k ++ [d] := by rw [List.take_succ_eq_append_getElem hlt, hd]
      have HTK := Lib.hid htk
      obtain ⟨g, hg⟩ : ∃ g, Hid (getN ys d.a = g) := ⟨_, rfl⟩
      have hget := fun W (h : ClkIn W (.slice A2 ys.length c2) ys) => rGet_is W _ ys d.a g hg.out hys h
      clear htk hd hcell
      by_cases hn : d.n ≤ g
      · have t1 : decide ((g : Int) < (d.n : Int)) = false := by simp; omega
        have t2 : decide (g < d.n) = false := by simp; omega
        go_upto_region 4 with (fail)
        go_quiet ((go_at_call 27; exact Calls.quiet_of_same (hget _ hv)))
        go_wp2
        go_roundw
        case rel =>
          refine ⟨k + 1, by omega, by go_num, hF.drewN nq, ?_⟩
          rw [HTK.out]
          intro e he
          rcases List.mem_append.1 he with he | he
          · exact HALL.out e he
          · rw [List.mem_singleton.1 he, hg.out]; exact hn
        case measure => simp [intOf]; omega
      · have t1 : decide ((g : Int) < (d.n : Int)) = true := by simp; omega
        have t2 : decide (g < d.n) = true := by simp; omega
        go_upto_region 4 with (fail)
        go_quiet ((go_at_call 27; exact Calls.quiet_of_same (hget _ hv)))
        go_wp2
        go_ret
        refine ⟨?_, hF.drewN nq⟩
        have : R = false := by
          rw [← hR.out]
          unfold withinR
          rw [List.all_eq_false]
          exact ⟨d, hmem, by rw [hg.out]; simpa using hn⟩
        rw [this]
        rfl
    · have hge : ¬ ((k : Int) < xs.length) := by omega
      go_wp2
      go_ret
      refine ⟨?_, hF⟩
      have : R = true := by
        rw [← hR.out]
        unfold withinR
        rw [List.all_eq_true]
        intro d hd
        have := HALL.out d (by rw [List.take_of_length_le (by omega)]; exact hd)
        simpa using this
      rw [this]
      rfl
theorem rCompare_any (w : World) (u v : Value) (xs ys : List Dot) (c : Int) (hc : cmpC xs ys = c) (hxs : xs.length ≤ 8796093022208) (hys : ys.length ≤ 8796093022208) (hu : ClkIn w u xs) (hv : ClkIn w v ys) :
    Calls Try.prog 29 #[u, v] w fun e w' => e = .returned (.int .i64 c) ∧ Fr w.heap.size [] w w' := by
  have hx := fun W (h1 : ClkIn W u xs) (h2 : ClkIn W v ys) => rWithin_any W u v xs ys hxs hys h1 h2
  have hy := fun W (h1 : ClkIn W u xs) (h2 : ClkIn W v ys) => rWithin_any W v u ys xs hys hxs h2 h1
  obtain ⟨A, c1, rfl, _⟩ := id hu
  obtain ⟨A2, c2, rfl, _⟩ := id hv
  subst hc
  unfold cmpC
  generalize withinR xs ys = p at hx ⊢
  generalize withinR ys xs = q at hy ⊢
  cases p <;> cases q
  all_goals
    go_enter Try.func29, Try.ntmps29
    go_wp2_with (first
      | (go_at_call 59; (with_reducible refine (hy w1 (clkIn_fr hu f1) (clkIn_fr hv f1)).mono ?_); rintro e w2 ⟨rfl, f2⟩)
      | (go_at_call 59; (with_reducible refine (hx w hu hv).mono ?_); rintro e w1 ⟨rfl, f1⟩))
    go_ret
    exact ⟨rfl, f1.trans (f2.mono f1.size (by simp))⟩
theorem rSame_any (w : World) (u v : Value) (xs ys : List Dot) (hxs : xs.length ≤ 8796093022208) (hys : ys.length ≤ 8796093022208) (hu : ClkIn w u xs) (hv : ClkIn w v ys) :
    Calls Try.prog 31 #[u, v] w fun e w' => e = .returned (.bool (withinR xs ys && withinR ys xs)) ∧ Fr w.heap.size [] w w' := by
  have hc := fun c h => rCompare_any w u v xs ys c h hxs hys hu hv
  obtain ⟨A, c, rfl, hA⟩ := hu
  obtain ⟨A2, c2, rfl, hA2⟩ := hv
  have he : (withinR xs ys && withinR ys xs) = decide (cmpC xs ys = 0) := by
    unfold cmpC
    cases withinR xs ys <;> cases withinR ys xs <;> simp
  rw [he]
  obtain ⟨p, hp⟩ : ∃ p, cmpC xs ys = p := ⟨_, rfl⟩
  have hc := hc p hp
  rw [hp]
  go_enter Try.func31, Try.ntmps31
  go_wp2_with (go_at_call 29; (with_reducible refine hc.mono ?_); rintro e w1 ⟨rfl, f1⟩)
  go_ret
  exact ⟨rfl, f1⟩
set_option maxHeartbeats 1000000 in
theorem rNext_any (w : World) (v : Value) (ds : List Dot) (ac : Nat) (hds : ds.length ≤ 8796093022208) (hI : ClkIn w v ds) (hb : getN ds ac < 18446744073709551616) :
    Calls Try.prog 32 #[v, .int .u64 (ac : Int)] w fun e w' => e = .returned (.agg #[.int .u64 ((nextN ds ac).a : Int), .int .u64 ((nextN ds ac).n : Int)]) ∧ Fr w.heap.size [] w w' := by
  have hF := (Fr.refl w.heap.size [] w).alloc (Nat.le_refl _) (.cells #[.int .u64 0, .int .u64 0] 27)
  have hH := Has.new w 27 [.int .u64 0, .int .u64 0]
  have hg := fun n h => rGet_is _ v ds ac n h hds (clkIn_fr hI hF)
  obtain ⟨A, c, rfl, _⟩ := hI
  unfold nextN
  obtain ⟨m, hm⟩ : ∃ m, getN ds ac = m := ⟨_, rfl⟩
  have hg := hg m hm
  rw [hm] at hb ⊢
  obtain ⟨k, hk⟩ : ∃ k : Nat, (if m < 18446744073709551615 then m + 1 else m) = k := ⟨_, rfl⟩
  rw [hk]
  obtain ⟨W1, hW1⟩ : ∃ W1, w.alloc (.cells #[.int .u64 0, .int .u64 0] 27) = W1 := ⟨_, rfl⟩
  have hH1 : Has W1 w.heap.size 27 [.int .u64 0, .int .u64 0] := by rw [← hW1]; exact hH
  have hF1 : Fr w.heap.size [] w W1 := by rw [← hW1]; exact hF
  have hg1 : Calls Try.prog 27 #[.slice A ds.length c, .int .u64 (ac : Int)] W1 fun e w' => e = .returned (.int .u64 (m : Int)) ∧ W1 = w' := by rw [← hW1]; exact hg.mono fun _ _ ⟨h1, h2⟩ => ⟨h1, h2.symm⟩
  have t0 := hH1.cell 0
  have t1 := hH1.cell 1
  have t2 := hH1.frozen 0
  have t3 := hH1.frozen 1
  have h2 := (hH1.set 0 (.int .u64 (ac : Int))).set 1 (.int .u64 (k : Int))
  have t4 := h2.cell 0
  have t5 := h2.cell 1
  have t6 := (hF1.setCell (p := ⟨w.heap.size, 0, none⟩) (.inr (Nat.le_refl _)) (.int .u64 (ac : Int))).setCell (p := ⟨w.heap.size, 1, none⟩) (.inr (Nat.le_refl _)) (.int .u64 (k : Int))
  clear hg hH hF h2 hH1 hF1
  by_cases h0 : m < 18446744073709551615
  · rw [if_pos h0] at hk
    have hw : IntKind.u64.wrap ((m : Int) + 1) = (k : Int) := by rw [IntKind.wrap_u64]; omega
    have hd : decide ((m : Int) < (k : Int)) = true := by simp; omega
    have hd2 : decide (m < k) = true := by simp; omega
    have HK := Lib.hid hk
    clear h0 hb hm hk
    go_enter Try.func32, Try.ntmps32
    go_upto_region 1 with (fail)
    clear hW1
    go_wp2_with (go_at_call 27; (with_reducible refine hg1.mono ?_); rintro e w1 ⟨rfl, rfl⟩)
    refine bodyPost_ret (v := .agg #[.int .u64 (ac : Int), .int .u64 (k : Int)]) (by simp [results, Try.results32, go_sem, t4, t5]) rfl ⟨rfl, t6⟩
  · rw [if_neg h0] at hk
    subst hk
    have hw : IntKind.u64.wrap ((m : Int) + 1) = 0 := by rw [IntKind.wrap_u64]; omega
    have hd : decide ((m : Int) < 0) = false := by simp
    clear h0 hb hm
    go_enter Try.func32, Try.ntmps32
    go_upto_region 1 with (fail)
    clear hW1
    go_wp2_with (go_at_call 27; (with_reducible refine hg1.mono ?_); rintro e w1 ⟨rfl, rfl⟩)
    refine bodyPost_ret (v := .agg #[.int .u64 (ac : Int), .int .u64 (m : Int)]) (by simp [results, Try.results32, go_sem, t4, t5]) rfl ⟨rfl, t6⟩
end Go.Proofs.Ytaglginhaofgeaa
