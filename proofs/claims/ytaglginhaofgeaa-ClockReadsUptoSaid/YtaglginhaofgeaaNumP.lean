/- Numbers: what was laid down is taken up, and the other way round (plain). -/
import Derived.Test.YtaglginhaofgeaaPackTake
namespace Go.Proofs.Ytaglginhaofgeaa
open Go.RowKit
namespace Pk
theorem np_ofNat {n : Nat} (h : n < 256) : (UInt8.ofNat n).toNat = n := by rw [UInt8.toNat_ofNat']; omega
theorem np_putD : ∀ (k m : Nat), m ≤ k → ∀ (i acc : Nat) (r : List UInt8), i ≤ 9 → m * 128 ^ i < 18446744073709551616 → (0 < i → m ≠ 0) → numD i acc (numB m ++ r) = (acc + m * 128 ^ i, r, 0)
  | 0, m, hk, i, acc, r, hi, hm, h0 => by
    obtain rfl : m = 0 := by omega
    have : i = 0 := by rcases Nat.eq_zero_or_pos i with h | h; exact h; exact absurd rfl (h0 h)
    subst this
    rw [numB_small (by decide)]
    simp [numD_cons]
  | k + 1, m, hk, i, acc, r, hi, hm, h0 => by
    by_cases hs : m < 128
    · rw [numB_small hs]
      simp only [List.cons_append, List.nil_append]
      rw [numD_cons, np_ofNat (by omega), if_neg, if_pos hs]
      rintro (⟨rfl, h⟩ | ⟨h1, h2⟩)
      · have : m * 128 ^ 9 = m * 9223372036854775808 := by rw [show (128 : Nat) ^ 9 = 9223372036854775808 by decide]
        omega
      · exact h0 h1 h2
    · have h9 : i ≠ 9 := by
        rintro rfl
        have : m * 128 ^ 9 = m * 9223372036854775808 := by rw [show (128 : Nat) ^ 9 = 9223372036854775808 by decide]
        omega
      rw [numB_big hs]
      simp only [List.cons_append]
      have e : m * 128 ^ i = m % 128 * 128 ^ i + m / 128 * 128 ^ (i + 1) := by
        rw [Nat.pow_succ, Nat.mul_comm (128 ^ i) 128, ← Nat.mul_assoc, ← Nat.add_mul]
        congr 1
        omega
      rw [numD_cons, np_ofNat (by omega), if_neg, if_neg (by omega), Nat.add_sub_cancel_left, np_putD k (m / 128) (by omega) (i + 1) _ r (by omega) (by omega) (fun _ => by omega), e, Nat.add_assoc]
      rintro (⟨h, _⟩ | ⟨_, h⟩)
      · exact h9 h
      · omega
theorem np_put {n : Nat} (h : n < 18446744073709551616) (r : List UInt8) : numE (numB n ++ r) 0 = (n, r, 0) := by
  have := np_putD n n (Nat.le_refl _) 0 0 r (by decide) (by simpa using h) (by simp)
  rw [show numE (numB n ++ r) 0 = numD 0 0 (numB n ++ r) from if_pos rfl, this]
  simp
theorem np_invD : ∀ (l : List UInt8) (i acc n : Nat) (r : List UInt8), numD i acc l = (n, r, 0) → ∃ m, n = acc + m * 128 ^ i ∧ l = numB m ++ r ∧ (0 < i → m ≠ 0)
  | [], i, acc, n, r, h => by simp [numD] at h
  | c :: l, i, acc, n, r, h => by
    rw [numD_cons] at h
    have hc := c.toNat_lt
    split at h
    · simp at h
    · rename_i hb
      split at h
      · rename_i hl
        simp only [Prod.mk.injEq, and_true] at h
        obtain ⟨rfl, rfl⟩ := h
        refine ⟨c.toNat, rfl, ?_, fun hi h0 => hb (.inr ⟨hi, h0⟩)⟩
        rw [numB_small hl]
        simp
      · rename_i hl
        obtain ⟨m, hn, hl2, hm⟩ := np_invD l (i + 1) _ n r h
        have hm0 := hm (by omega)
        refine ⟨c.toNat - 128 + 128 * m, ?_, ?_, fun _ => by omega⟩
        · rw [hn, Nat.pow_succ, Nat.add_mul, Nat.add_assoc]
          congr 2
          rw [Nat.mul_comm 128 m, Nat.mul_assoc, Nat.mul_comm (128 ^ i) 128]
        · rw [numB_big (by omega), hl2, show (c.toNat - 128 + 128 * m) / 128 = m by omega, show 128 + (c.toNat - 128 + 128 * m) % 128 = c.toNat by omega]
          simp
theorem np_inv {l r : List UInt8} {n : Nat} (h : numE l 0 = (n, r, 0)) : l = numB n ++ r := by
  obtain ⟨m, hn, hl, _⟩ := np_invD l 0 0 n r h
  rw [show n = m by simpa using hn]
  exact hl
end Pk
end Go.Proofs.Ytaglginhaofgeaa
