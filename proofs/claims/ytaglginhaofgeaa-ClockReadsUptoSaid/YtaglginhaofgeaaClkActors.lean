/- The law on actors. -/
import Derived.Test.YtaglginhaofgeaaClkLaw
namespace Go.Proofs.Ytaglginhaofgeaa
open Go.RowKit Go.Shelf
open Ck Pk
theorem and_i64 (x : Int) (i : Nat) (hi : i ≤ 32) : bits .and .i64 x (2 ^ i - 1) = x % 2 ^ i := by
  show IntKind.i64.wrap ((BitVec.ofInt 64 x &&& BitVec.ofInt 64 (2 ^ i - 1)).toNat : Int) = _
  have hp : (2 : Nat) ^ i ≤ 4294967296 := Nat.le_trans (Nat.pow_le_pow_right (by decide) hi) (by decide)
  have hp0 : 0 < (2 : Nat) ^ i := Nat.two_pow_pos i
  have hc : ((2 ^ i : Nat) : Int) = (2 : Int) ^ i := by rw [Int.natCast_pow]; rfl
  have hm : (BitVec.ofInt 64 (2 ^ i - 1)).toNat = 2 ^ i - 1 := by
    rw [BitVec.toNat_ofInt, show ((2 : Int) ^ i - 1) = ((2 ^ i - 1 : Nat) : Int) by omega]
    omega
  rw [BitVec.toNat_and, hm, Nat.and_two_pow_sub_one_eq_mod, BitVec.toNat_ofInt, IntKind.wrap_i64]
  have e : (((x % (2 ^ 64 : Nat)).toNat % 2 ^ i : Nat) : Int) = x % 2 ^ i := by
    have h1 : (((x % (2 ^ 64 : Nat)).toNat : Nat) : Int) = x % (2 ^ 64 : Nat) := Int.toNat_of_nonneg (Int.emod_nonneg _ (by decide))
    rw [Int.natCast_emod, h1]
    have hd : ((2 ^ i : Nat) : Int) ∣ ((2 ^ 64 : Nat) : Int) := Int.natCast_dvd_natCast.2 (Nat.pow_dvd_pow 2 (by omega))
    rw [Int.emod_emod_of_dvd _ hd]
    rfl
  rw [e]
  have h0 := Int.emod_nonneg x (b := 2 ^ i) (by have : (0 : Int) < 2 ^ i := Int.pow_pos (by decide); omega)
  have h1 := Int.emod_lt_of_pos x (b := 2 ^ i) (Int.pow_pos (by decide))
  have h2 : (2 : Int) ^ i ≤ 4294967296 := by omega
  omega
theorem and16 (x : Int) : bits .and .i64 x 65535 = x % 65536 := and_i64 x 16 (by decide)
theorem and32 (x : Int) : bits .and .i64 x 4294967295 = x % 4294967296 := and_i64 x 32 (by decide)
theorem actorN_eq (a0 a1 a2 b0 b1 b2 : Int) : actorN a0 a1 a2 = actorN b0 b1 b2 ↔ a0 % 65536 = b0 % 65536 ∧ a1 % 65536 = b1 % 65536 ∧ a2 % 4294967296 = b2 % 4294967296 := by
  unfold actorN; omega
set_option maxHeartbeats 2000000 in
set_option maxRecDepth 100000 in
theorem actors_law (w : World) (a0 a1 a2 b0 b1 b2 : Int) : Calls Try.prog 8 #[.agg #[.int .i64 a0, .int .i64 a1, .int .i64 a2], .agg #[.int .i64 b0, .int .i64 b1, .int .i64 b2]] w fun e w' => e = .returned (.bool true) ∧ Fr w.heap.size [] w w' := by
  have hX := actorN_eq a0 a1 a2 b0 b1 b2
  have hx : ∀ W, Calls Try.prog 33 #[.int .i64 a0, .int .i64 a1, .int .i64 a2] W fun e w' => e = .returned (.int .u64 (actorN a0 a1 a2)) ∧ W = w' := fun W => (actor_any W a0 a1 a2).mono fun e w' ⟨h1, h2⟩ => ⟨h1, h2.symm⟩
  have hy : ∀ W, Calls Try.prog 33 #[.int .i64 b0, .int .i64 b1, .int .i64 b2] W fun e w' => e = .returned (.int .u64 (actorN b0 b1 b2)) ∧ W = w' := fun W => (actor_any W b0 b1 b2).mono fun e w' ⟨h1, h2⟩ => ⟨h1, h2.symm⟩
  generalize actorN a0 a1 a2 = X at hX hx
  generalize actorN b0 b1 b2 = Y at hX hy
  have m1 := and16 a0
  have m2 := and16 a1
  have m3 := and32 a2
  have m4 := and16 b0
  have m5 := and16 b1
  have m6 := and32 b2
  obtain ⟨W2, hW2⟩ : ∃ W2, (w.alloc (.cells #[.int .i64 a0, .int .i64 a1, .int .i64 a2] 47)).alloc (.cells #[.int .i64 b0, .int .i64 b1, .int .i64 b2] 47) = W2 := ⟨_, rfl⟩
  have hA : Has W2 w.heap.size 47 [.int .i64 a0, .int .i64 a1, .int .i64 a2] := by rw [← hW2]; exact (Has.new w _ _).alloc _
  have hB : Has W2 (w.heap.size + 1) 47 [.int .i64 b0, .int .i64 b1, .int .i64 b2] := by rw [← hW2]; exact Has.new' _ _ _ (by simp)
  have hF2 : Fr w.heap.size [] w W2 := by rw [← hW2]; exact ((Fr.refl _ _ _).alloc (Nat.le_refl _) _).alloc (by simp) _
  go_enter Try.func8, Try.ntmps8
  go_upto_region 1 with (fail)
  clear hW2
  go_upto_region 2 with (go_at_call 10; (refine (awake06_any W2).mono ?_); rintro e w1 ⟨rfl, f1⟩)
  have hA1 := hA.fr f1 hA.lt (by simp)
  have hB1 := hB.fr f1 hB.lt (by simp)
  have c0 : w1.cell? ⟨w.heap.size, 0, none⟩ = some (.int .i64 a0) := hA1.cell 0
  have c1 : w1.cell? ⟨w.heap.size, 1, none⟩ = some (.int .i64 a1) := hA1.cell 1
  have c2 : w1.cell? ⟨w.heap.size, 2, none⟩ = some (.int .i64 a2) := hA1.cell 2
  have d0 : w1.cell? ⟨w.heap.size + 1, 0, none⟩ = some (.int .i64 b0) := hB1.cell 0
  have d1 : w1.cell? ⟨w.heap.size + 1, 1, none⟩ = some (.int .i64 b1) := hB1.cell 1
  have d2 : w1.cell? ⟨w.heap.size + 1, 2, none⟩ = some (.int .i64 b2) := hB1.cell 2
  have hF1 := hF2.trans (f1.mono hF2.size (by simp))
  clear hA hB hA1 hB1 f1 hF2
  go_upto_region 4 with (first
    | (go_at_call 33; (with_reducible refine (hy w1).mono ?_); rintro e w3 ⟨rfl, rfl⟩)
    | (go_at_call 33; (with_reducible refine (hx w1).mono ?_); rintro e w2 ⟨rfl, rfl⟩))
  by_cases e1 : a0 % 65536 = b0 % 65536
  · have t1 : (a0 % 65536 == b0 % 65536) = true := beq_iff_eq.2 e1
    by_cases e2 : a1 % 65536 = b1 % 65536
    · have t2 : (a1 % 65536 == b1 % 65536) = true := beq_iff_eq.2 e2
      by_cases e3 : a2 % 4294967296 = b2 % 4294967296
      · have t3 : (a2 % 4294967296 == b2 % 4294967296) = true := beq_iff_eq.2 e3
        have tX : (X == Y) = true := beq_iff_eq.2 (hX.2 ⟨e1, e2, e3⟩)
        clear hX e1 e2 e3
        go_wp2
        go_ret
        exact ⟨rfl, hF1⟩
      · have t3 : (a2 % 4294967296 == b2 % 4294967296) = false := beq_eq_false_iff_ne.2 e3
        have tX : (X == Y) = false := beq_eq_false_iff_ne.2 fun h => e3 (hX.1 h).2.2
        clear hX e1 e2 e3
        go_wp2
        go_ret
        exact ⟨rfl, hF1⟩
    · have t2 : (a1 % 65536 == b1 % 65536) = false := beq_eq_false_iff_ne.2 e2
      have tX : (X == Y) = false := beq_eq_false_iff_ne.2 fun h => e2 (hX.1 h).2.1
      clear hX e1 e2
      go_wp2
      go_ret
      exact ⟨rfl, hF1⟩
  · have t1 : (a0 % 65536 == b0 % 65536) = false := beq_eq_false_iff_ne.2 e1
    have tX : (X == Y) = false := beq_eq_false_iff_ne.2 fun h => e1 (hX.1 h).1
    clear hX e1
    go_wp2
    go_ret
    exact ⟨rfl, hF1⟩
end Go.Proofs.Ytaglginhaofgeaa
