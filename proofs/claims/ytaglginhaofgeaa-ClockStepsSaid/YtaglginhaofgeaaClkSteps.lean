/- The law: an actor's next dots, one by one. -/
import Derived.Test.YtaglginhaofgeaaClkOrder
import Derived.BigQuiet
namespace Go.Proofs.Ytaglginhaofgeaa
open Go.RowKit Go.Shelf
open Ck Pk
def Ck.dotAt (ac n : Nat) : Dot := ⟨ac, n⟩
theorem steps_zero (ds : List Dot) (ac : Nat) : normL ds = normL (ds ++ [dotAt ac (getN ds ac)]) := normL_ext fun a => by
  rw [getN_append, getN_cons, getN_nil]
  unfold dotAt
  by_cases h : ac = a
  · subst h; simp
  · simp [h]
theorem steps_get (ds : List Dot) (ac k : Nat) : getN (normL (ds ++ [dotAt ac (getN ds ac + k)])) ac = getN ds ac + k := by
  rw [normL_get, getN_append, getN_cons, getN_nil]
  unfold dotAt
  simp
theorem steps_len (ds : List Dot) (ac k : Nat) : (normL (ds ++ [dotAt ac (getN ds ac + k)])).length ≤ ds.length + 1 := by
  have := normL_len (ds ++ [dotAt ac (getN ds ac + k)])
  rwa [List.length_append] at this
theorem steps_next (ds : List Dot) (ac k : Nat) (h : getN ds ac + k < 18446744073709551615) : nextN (normL (ds ++ [dotAt ac (getN ds ac + k)])) ac = dotAt ac (getN ds ac + (k + 1)) := by
  unfold nextN dotAt
  have := steps_get ds ac k
  unfold dotAt at this
  rw [this, if_pos h]
  rfl
theorem steps_step (ds : List Dot) (ac k : Nat) : normL (normL (ds ++ [dotAt ac (getN ds ac + k)]) ++ [dotAt ac (getN ds ac + (k + 1))]) = normL (ds ++ [dotAt ac (getN ds ac + (k + 1))]) := normL_ext fun a => by
  rw [getN_append, normL_get, getN_append, getN_append, getN_cons, getN_cons, getN_nil]
  unfold dotAt
  by_cases h : ac = a
  · simp [h]
    try omega
  · simp [h]
theorem wrap_add (a b : Nat) (h : a + b < 18446744073709551616) : IntKind.u64.wrap ((a : Int) + (b : Int)) = ((a + b : Nat) : Int) := by
  rw [IntKind.wrap_u64]; omega
set_option maxHeartbeats 4000000 in
set_option maxRecDepth 100000 in
theorem steps_law (w : World) (v : Value) (ds : List Dot) (ac : Nat) (steps : Int) (hv : ClkIn w v ds) (hl : ds.length ≤ 8796093022000) (ok : ∀ d ∈ ds, d.ok) :
    Calls Try.prog 6 #[v, .int .u64 (ac : Int), .int .i64 steps] w fun e w' => e = .returned (.bool true) ∧ Fr w.heap.size [] w w' := by
  have hg : getN ds ac < 18446744073709551616 := by
    rcases getN_ex ds ac with h0 | ⟨d, hd, _, h2⟩
    · omega
    · have := (ok d hd).2; omega
  obtain ⟨A1, c1, rfl, _⟩ := id hv
  obtain ⟨n, hn, hn2⟩ : ∃ n : Nat, n ≤ 50 ∧ Hid ((0 ≤ steps.tmod 51 ∧ steps.tmod 51 = n) ∨ (steps.tmod 51 < 0 ∧ -(steps.tmod 51) = n)) := by
    have h0 := Int.tmod_lt_of_pos steps (b := 51) (by decide)
    have h1 := Int.lt_tmod_of_pos steps (b := 51) (by decide)
    rcases Int.lt_or_le (steps.tmod 51) 0 with h | h
    · exact ⟨(-(steps.tmod 51)).toNat, by omega, Lib.hid (.inr ⟨h, by omega⟩)⟩
    · exact ⟨(steps.tmod 51).toNat, by omega, Lib.hid (.inl ⟨h, by omega⟩)⟩
  have hget := fun W (h : ClkIn W (.slice A1 ds.length c1) ds) => get_any W (.slice A1 ds.length c1) ds ac (by omega) h
  obtain ⟨g, hgg⟩ : ∃ g, Hid (getN ds ac = g) := ⟨_, rfl⟩
  rw [hgg.out] at hg
  simp only [hgg.out] at hget
  go_enter Try.func6, Try.ntmps6
  go_upto_region 2 with (go_at_call 10; (refine (awake06_any w).mono ?_); rintro e w1 ⟨rfl, f1⟩)
  have hv1 := clkIn_fr hv f1
  have hs1 := f1.size
  clear hv
  obtain ⟨r, hr⟩ : ∃ r, steps.tmod 51 = r := ⟨_, rfl⟩
  rw [hr] at hn2
  rcases hn2.out with ⟨r0, r1⟩ | ⟨r0, r1⟩
  all_goals
    have R1 := Lib.hid r1
    clear r1 hn2
    first
      | (have hd : decide (r < 0) = false := by simp; omega)
      | (have hd : decide (r < 0) = true := by simp; omega)
    have rl : -50 ≤ r := by have := R1.out; omega
    have ru : r ≤ 50 := by have := R1.out; omega
    go_upto_region 5 with (fail)
    rw [R1.out]
    clear hd
    go_upto_region 6 with (go_at_call 24; (refine (hget w1 hv1).mono ?_); rintro e w2 ⟨rfl, f2⟩)
    have hF2 := f1.trans (f2.mono f1.size (by simp))
    have hv2 := clkIn_fr hv1 f2
    have s1 : IntKind.u64.wrap (n : Int) = (n : Int) := by rw [IntKind.wrap_u64]; omega
    by_cases hov : g + n + 1 < 18446744073709551616
    · have s2 : IntKind.u64.wrap ((g : Int) + (n : Int)) = ((g + n : Nat) : Int) := wrap_add g n (by omega)
      have s3 : IntKind.u64.wrap (((g + n : Nat) : Int) + 1) = ((g + n + 1 : Nat) : Int) := wrap_add (g + n) 1 hov
      have s4 : decide (((g + n + 1 : Nat) : Int) < (g : Int)) = false := by simp; omega
      have s5 : decide (g + n + 1 < g) = false := by simp; omega
      have hdz := steps_zero ds ac
      rw [hgg.out] at hdz
      have HDZ := Lib.hid hdz
      clear hdz
      go_wp2_with (go_at_call 13; (refine (norm_is w2 _ ds (by omega) hv2).mono ?_); rintro e w3 ⟨⟨v3, rfl, g3⟩, f3⟩)
      have hF3 := hF2.trans (f3.mono hF2.size (by simp))
      have hv3 := clkIn_own g3
      rw [HDZ.out] at hv3
      clear g3 f3 hv2 f2 hv1 hget f1
      go_loopw [10, 11] (fun v i wr => ∃ k : Nat, k ≤ n ∧ i = .int .i64 (k : Int) ∧ ClkIn wr v (normL (ds ++ [dotAt ac (g + k)])) ∧ Fr w.heap.size [] w wr) (fun _ i _ => n - (intOf i).toNat)
      case atStart => exact ⟨0, by omega, rfl, hv3, hF3⟩
      case round =>
        clear hv3 hF3 hF2
        obtain ⟨k, hk, rfl, hv4, hF4⟩ := hrel
        by_cases hlt : k < n
        · have hln := steps_len ds ac k
          have hgt := steps_get ds ac k
          have hnx := steps_next ds ac k
          have hst := steps_step ds ac k
          rw [hgg.out] at hln hgt hnx hst
          have hnx := hnx (by omega)
          have hNx := next_any wr u10 _ ac (by omega) hv4 (by rw [hgt]; omega)
          rw [hnx] at hNx
          have HST := Lib.hid hst
          clear hst hgt hnx
          go_wp2_with (first
            | (go_at_call 23; ((with_reducible refine (add1_is w5 u10 _ (dotAt ac (g + (k + 1))) (by omega) (clkIn_fr hv4 f5)).mono ?_); rintro e w6 ⟨⟨v6, rfl, g6⟩, f6⟩))
            | (go_at_call 22; ((with_reducible refine hNx.mono ?_); rintro e w5 ⟨rfl, f5⟩)))
          have hF5 := hF4.trans (f5.mono hF4.size (by simp))
          have hv6 := clkIn_own g6
          rw [HST.out] at hv6
          go_roundw
          case rel => exact ⟨k + 1, by omega, by go_num, hv6, hF5.trans (f6.mono hF5.size (by simp))⟩
          case measure => simp [intOf]; omega
        · obtain rfl : k = n := by omega
          have hnlt : ¬ ((k : Int) < (k : Int)) := by omega
          have hln := steps_len ds ac k
          have hgt := steps_get ds ac k
          rw [hgg.out] at hln hgt
          obtain ⟨D, hD⟩ : ∃ D, normL (ds ++ [dotAt ac (g + k)]) = D := ⟨_, rfl⟩
          rw [hD] at hv4 hln hgt
          have hlD : D.length ≤ 8796093022208 := by omega
          have cG : ∀ W, ClkIn W u10 D → Calls Try.prog 24 #[u10, .int .u64 (ac : Int)] W fun e w' => e = .returned (.int .u64 ((g : Int) + (k : Int))) ∧ Fr W.heap.size [] W w' := fun W h => by
            have := get_any W u10 D ac hlD h
            rw [hgt] at this
            exact this
          have cM : ∀ W, ClkIn W u10 D → Calls Try.prog 14 #[u10, .agg #[.int .u64 (ac : Int), .int .u64 ((g : Int) + (k : Int) + 1)]] W fun e w' => e = .returned (.bool false) ∧ Fr W.heap.size [] W w' := fun W h =>
            covers_is W u10 D (dotAt ac (g + k + 1)) false (by unfold coversB dotAt; rw [hgt]; simp) hlD h
          have cL : g + k ≠ 0 → ∀ W, ClkIn W u10 D → Calls Try.prog 14 #[u10, .agg #[.int .u64 (ac : Int), .int .u64 ((g : Int) + (k : Int))]] W fun e w' => e = .returned (.bool true) ∧ Fr W.heap.size [] W w' := fun hz W h =>
            covers_is W u10 D (dotAt ac (g + k)) true (by unfold coversB dotAt; rw [hgt]; simp; omega) hlD h
          have HG := Lib.hid hgt
          have HD := Lib.hid hD
          clear hgt hD
          have hB1 : Has ((wr.alloc (.cells #[.int .u64 (ac : Int), .int .u64 ((g : Int) + (k : Int))] 27)).alloc (.cells #[.int .u64 (ac : Int), .int .u64 ((g : Int) + (k : Int) + 1)] 27)) wr.heap.size 27 [.int .u64 (ac : Int), .int .u64 ((g : Int) + (k : Int))] := (Has.new wr _ _).alloc _
          have hB2 : Has ((wr.alloc (.cells #[.int .u64 (ac : Int), .int .u64 ((g : Int) + (k : Int))] 27)).alloc (.cells #[.int .u64 (ac : Int), .int .u64 ((g : Int) + (k : Int) + 1)] 27)) (wr.heap.size + 1) 27 [.int .u64 (ac : Int), .int .u64 ((g : Int) + (k : Int) + 1)] := Has.new' _ _ _ (by simp)
          have hv5 := clkIn_alloc (clkIn_alloc hv4 (.cells #[.int .u64 (ac : Int), .int .u64 ((g : Int) + (k : Int))] 27)) (.cells #[.int .u64 (ac : Int), .int .u64 ((g : Int) + (k : Int) + 1)] 27)
          have hF5 := (hF4.alloc hF4.size (.cells #[.int .u64 (ac : Int), .int .u64 ((g : Int) + (k : Int))] 27)).alloc (by have := hF4.size; simp; omega) (.cells #[.int .u64 (ac : Int), .int .u64 ((g : Int) + (k : Int) + 1)] 27)
          go_upto_region 15 with (fail)
          obtain ⟨W5, hW5⟩ : ∃ W5, (wr.alloc (.cells #[.int .u64 (ac : Int), .int .u64 ((g : Int) + (k : Int))] 27)).alloc (.cells #[.int .u64 (ac : Int), .int .u64 ((g : Int) + (k : Int) + 1)] 27) = W5 := ⟨_, rfl⟩
          rw [hW5] at hB1 hB2 hv5 hF5 ⊢
          clear hW5 hF4 hv4
          have hstay : ∀ W W', (Fr w.heap.size [] w W ∧ (Has W wr.heap.size 27 [.int .u64 (ac : Int), .int .u64 ((g : Int) + (k : Int))] ∧ Has W (wr.heap.size + 1) 27 [.int .u64 (ac : Int), .int .u64 ((g : Int) + (k : Int) + 1)]) ∧ ClkIn W u10 D) → Fr W.heap.size [] W W' →
              (Fr w.heap.size [] w W' ∧ (Has W' wr.heap.size 27 [.int .u64 (ac : Int), .int .u64 ((g : Int) + (k : Int))] ∧ Has W' (wr.heap.size + 1) 27 [.int .u64 (ac : Int), .int .u64 ((g : Int) + (k : Int) + 1)]) ∧ ClkIn W' u10 D) := fun W W' h f =>
            ⟨h.1.trans (f.mono h.1.size (by simp)), ⟨h.2.1.1.fr f h.2.1.1.lt (by simp), h.2.1.2.fr f h.2.1.2.lt (by simp)⟩, clkIn_fr h.2.2 f⟩
          have hrd : ∀ W, (Has W wr.heap.size 27 [.int .u64 (ac : Int), .int .u64 ((g : Int) + (k : Int))] ∧ Has W (wr.heap.size + 1) 27 [.int .u64 (ac : Int), .int .u64 ((g : Int) + (k : Int) + 1)]) →
              W.cell? ⟨wr.heap.size, 0, none⟩ = some (.int .u64 (ac : Int)) ∧ W.cell? ⟨wr.heap.size, 1, none⟩ = some (.int .u64 ((g : Int) + (k : Int))) ∧ W.cell? ⟨wr.heap.size + 1, 0, none⟩ = some (.int .u64 (ac : Int)) ∧ W.cell? ⟨wr.heap.size + 1, 1, none⟩ = some (.int .u64 ((g : Int) + (k : Int) + 1)) := fun W h =>
            ⟨h.1.cell 0, h.1.cell 1, h.2.cell 0, h.2.cell 1⟩
          by_cases hz : g + k = 0
          · have tz : ((g : Int) + (k : Int) == 0) = true := by rw [beq_iff_eq]; omega
            refine wp_region_class (fun W => Fr w.heap.size [] w W ∧ (Has W wr.heap.size 27 [.int .u64 (ac : Int), .int .u64 ((g : Int) + (k : Int))] ∧ Has W (wr.heap.size + 1) 27 [.int .u64 (ac : Int), .int .u64 ((g : Int) + (k : Int) + 1)]) ∧ ClkIn W u10 D) (by kernel_rfl) (by kernel_rfl) (⟨hF5.drew, ⟨hB1.drew, hB2.drew⟩, hv5⟩) ?_
            repeat
              first
                | (refine wpQuiet_skip (by rfl) ?_; try simp only [Act.put, List.setIfInBounds_toArray, List.set_cons_zero, List.set_cons_succ])
                | (refine wpQuiet_take (by rfl) ?_
                   apply Exists.intro
                   refine ⟨fun W hW => ?_, ?_⟩
                   · first
                       | ((obtain ⟨q0, q1, q2, q3⟩ := hrd _ hW.2.1; go_simp; exact rfl); done)
                       | ((obtain ⟨q0, q1, q2, q3⟩ := hrd _ hW.2.1; go_simp); done)
                       | (go_simp; done)
                       | (go_simp; exact rfl)
                       | (go_simp; (try refine ⟨rfl, ?_⟩); (go_at_call 14; exact (cM _ hW.2.2).mono fun e w' ⟨he, hf⟩ => ⟨he, hstay _ _ hW hf⟩); done)
                       | (go_simp; (try refine ⟨rfl, ?_⟩); (go_at_call 24; exact (cG _ hW.2.2).mono fun e w' ⟨he, hf⟩ => ⟨he, hstay _ _ hW hf⟩); done)
                   try simp only [Act.put, List.setIfInBounds_toArray, List.set_cons_zero, List.set_cons_succ])
            refine wpQuiet_nil ?_
            intro wq hq
            go_wp2
            go_ret
            exact ⟨rfl, hq.1⟩
          · have tz : ((g : Int) + (k : Int) == 0) = false := by rw [beq_eq_false_iff_ne]; omega
            have cL := cL hz
            refine wp_region_class (fun W => Fr w.heap.size [] w W ∧ (Has W wr.heap.size 27 [.int .u64 (ac : Int), .int .u64 ((g : Int) + (k : Int))] ∧ Has W (wr.heap.size + 1) 27 [.int .u64 (ac : Int), .int .u64 ((g : Int) + (k : Int) + 1)]) ∧ ClkIn W u10 D) (by kernel_rfl) (by kernel_rfl) (⟨hF5.drew, ⟨hB1.drew, hB2.drew⟩, hv5⟩) ?_
            repeat
              first
                | (refine wpQuiet_skip (by rfl) ?_; try simp only [Act.put, List.setIfInBounds_toArray, List.set_cons_zero, List.set_cons_succ])
                | (refine wpQuiet_take (by rfl) ?_
                   apply Exists.intro
                   refine ⟨fun W hW => ?_, ?_⟩
                   · first
                       | ((obtain ⟨q0, q1, q2, q3⟩ := hrd _ hW.2.1; go_simp; exact rfl); done)
                       | ((obtain ⟨q0, q1, q2, q3⟩ := hrd _ hW.2.1; go_simp); done)
                       | (go_simp; done)
                       | (go_simp; exact rfl)
                       | (go_simp; (try refine ⟨rfl, ?_⟩); (go_at_call 14; (first | (with_reducible refine (cL _ hW.2.2).mono fun e w' h => ?_) | (with_reducible refine (cM _ hW.2.2).mono fun e w' h => ?_)); exact ⟨h.1, hstay _ _ hW h.2⟩); done)
                       | (go_simp; (try refine ⟨rfl, ?_⟩); (go_at_call 24; exact (cG _ hW.2.2).mono fun e w' ⟨he, hf⟩ => ⟨he, hstay _ _ hW hf⟩); done)
                   try simp only [Act.put, List.setIfInBounds_toArray, List.set_cons_zero, List.set_cons_succ])
            refine wpQuiet_nil ?_
            intro wq hq
            go_wp2
            go_ret
            exact ⟨rfl, hq.1⟩
    · have s6 : decide (IntKind.u64.wrap (IntKind.u64.wrap ((g : Int) + (n : Int)) + 1) < (g : Int)) = true := by
        rw [IntKind.wrap_u64, IntKind.wrap_u64]; simp; omega
      go_wp2
      go_ret
      exact ⟨rfl, hF2⟩
end Go.Proofs.Ytaglginhaofgeaa
