/- Numbers laid down are taken up again, cut short they end too early; a frame that was cut or turned is refused (plain). -/
import Derived.Test.YtpcbkkccaahdbaaPackInv
namespace Go.Proofs.Ytpcbkkccaahdbaa
open Go.RowKit
namespace Pk
theorem ofNat_toNat {n : Nat} (h : n < 256) : (UInt8.ofNat n).toNat = n := by rw [UInt8.toNat_ofNat']; omega
theorem numD_put : ∀ (k m : Nat), m ≤ k → ∀ (i acc : Nat) (r : List UInt8), i ≤ 9 → m * 128 ^ i < 18446744073709551616 → (0 < i → m ≠ 0) → numD i acc (numB m ++ r) = (acc + m * 128 ^ i, r, 0)
  | 0, m, hk, i, acc, r, hi, hm, h0 => by
    obtain rfl : m = 0 := by omega
    have : i = 0 := by rcases Nat.eq_zero_or_pos i with h | h; exact h; exact absurd rfl (h0 h)
    subst this
    rw [numB_small (by decide)]
    simp [numD_cons]
  | k + 1, m, hk, i, acc, r, hi, hm, h0 => by
    by_cases hs : m < 128
    · rw [numB_small hs]
      simp only [List.cons_append, List.nil_append]
      rw [numD_cons, ofNat_toNat (by omega), if_neg, if_pos hs]
      rintro (⟨rfl, h⟩ | ⟨h1, h2⟩)
      · have : m * 128 ^ 9 = m * 9223372036854775808 := by rw [show (128 : Nat) ^ 9 = 9223372036854775808 by decide]
        omega
      · exact h0 h1 h2
    · have h9 : i ≠ 9 := by
        rintro rfl
        have : m * 128 ^ 9 = m * 9223372036854775808 := by rw [show (128 : Nat) ^ 9 = 9223372036854775808 by decide]
        omega
      rw [numB_big hs]
      simp only [List.cons_append]
      have e : m * 128 ^ i = m % 128 * 128 ^ i + m / 128 * 128 ^ (i + 1) := by
        rw [Nat.pow_succ, Nat.mul_comm (128 ^ i) 128, ← Nat.mul_assoc, ← Nat.add_mul]
        congr 1
        omega
      rw [numD_cons, ofNat_toNat (by omega), if_neg, if_neg (by omega), Nat.add_sub_cancel_left, numD_put k (m / 128) (by omega) (i + 1) _ r (by omega) (by omega) (fun _ => by omega), e, Nat.add_assoc]
      rintro (⟨h, _⟩ | ⟨_, h⟩)
      · exact h9 h
      · omega
theorem numE_put {n : Nat} (h : n < 18446744073709551616) (r : List UInt8) : numE (numB n ++ r) 0 = (n, r, 0) := by
  have := numD_put n n (Nat.le_refl _) 0 0 r (by decide) (by simpa using h) (by simp)
  rw [show numE (numB n ++ r) 0 = numD 0 0 (numB n ++ r) from if_pos rfl, this]
  simp
theorem numD_cut : ∀ (k m : Nat), m ≤ k → ∀ (i acc j : Nat), i ≤ 9 → m * 128 ^ i < 18446744073709551616 → j < (numB m).length → numD i acc ((numB m).take j) = (0, [], 10)
  | 0, m, hk, i, acc, j, hi, hm, hj => by
    obtain rfl : m = 0 := by omega
    rw [numB_small (by decide)] at hj ⊢
    obtain rfl : j = 0 := by simpa using hj
    rfl
  | k + 1, m, hk, i, acc, j, hi, hm, hj => by
    by_cases hs : m < 128
    · rw [numB_small hs] at hj ⊢
      obtain rfl : j = 0 := by simpa using hj
      rfl
    · have h9 : i ≠ 9 := by
        rintro rfl
        have : m * 128 ^ 9 = m * 9223372036854775808 := by rw [show (128 : Nat) ^ 9 = 9223372036854775808 by decide]
        omega
      rw [numB_big hs] at hj ⊢
      rcases j with _ | j
      · rfl
      · rw [List.take_succ_cons, numD_cons, ofNat_toNat (by omega), if_neg, if_neg (by omega)]
        · have e : m * 128 ^ i = m % 128 * 128 ^ i + m / 128 * 128 ^ (i + 1) := by
            rw [Nat.pow_succ, Nat.mul_comm (128 ^ i) 128, ← Nat.mul_assoc, ← Nat.add_mul]
            congr 1
            omega
          exact numD_cut k (m / 128) (by omega) (i + 1) _ j (by omega) (by omega) (by simpa using hj)
        · rintro (⟨h, _⟩ | ⟨_, h⟩)
          · exact h9 h
          · omega
theorem numE_cut {n j : Nat} (h : n < 18446744073709551616) (hj : j < (numB n).length) : numE ((numB n).take j) 0 = (0, [], 10) := by
  rw [show numE ((numB n).take j) 0 = numD 0 0 ((numB n).take j) from if_pos rfl]
  exact numD_cut n n (Nat.le_refl _) 0 0 j (by decide) (by simpa using h) hj
theorem numB_pos (n : Nat) : 0 < (numB n).length := by
  by_cases h : n < 128
  · rw [numB_small h]; simp
  · rw [numB_big h]; simp
theorem fourB_len (n : Nat) : (fourB n).length = 4 := rfl
theorem frameB_len (l : List UInt8) : (frameB l).length = (numB l.length).length + l.length + 4 := by
  unfold frameB textB
  rw [List.length_append, List.length_append, fourB_len]
theorem unframe_cut (l : List UInt8) (hl : l.length ≤ 65536) (m : Nat) (hm : m < (frameB l).length) : (unframeL ((frameB l).take m)).2.2 = 10 := by
  rw [frameB_len] at hm
  have hn : l.length < 18446744073709551616 := by omega
  by_cases h : m < (numB l.length).length
  · have e : (frameB l).take m = (numB l.length).take m := by
      unfold frameB textB
      rw [List.append_assoc, List.take_append_of_le_length (by omega)]
    rw [e]
    unfold unframeL
    rw [numE_cut hn h, if_pos (by decide)]
  · have e : (frameB l).take m = numB l.length ++ (l ++ fourB (crc l)).take (m - (numB l.length).length) := by
      unfold frameB textB
      rw [List.append_assoc, List.take_append]
      rw [List.take_of_length_le (by omega)]
    rw [e]
    have hr : ((l ++ fourB (crc l)).take (m - (numB l.length).length)).length < l.length + 4 := by
      rw [List.length_take, List.length_append, fourB_len]; omega
    obtain ⟨r, hrr⟩ : ∃ r, r = (l ++ fourB (crc l)).take (m - (numB l.length).length) := ⟨_, rfl⟩
    rw [← hrr] at hr ⊢
    unfold unframeL
    rw [numE_put hn, if_neg (by simp), if_neg (by simp; omega)]
    simp only
    by_cases hA : l.length ≤ r.length
    · have ha : rawE r 0 l.length = (r.take l.length, r.drop l.length, 0) := by unfold rawE; rw [if_pos rfl, if_pos hA]
      have hc : rawE (r.drop l.length) 0 4 = ([], [], 10) := by unfold rawE; rw [if_pos rfl, if_neg (by rw [List.length_drop]; omega)]
      simp only [ha, hc]
      rw [if_pos (by decide)]
    · have ha : rawE r 0 l.length = ([], [], 10) := by unfold rawE; rw [if_pos rfl, if_neg hA]
      have hc : rawE [] 10 4 = ([], [], 10) := rfl
      simp only [ha, hc]
      rw [if_pos (by decide)]
theorem xor_right {a b c : Nat} (h : a ^^^ c = b ^^^ c) : a = b := by
  have := congrArg (· ^^^ c) h
  simp only [Nat.xor_assoc, Nat.xor_self, Nat.xor_zero] at this
  exact this
theorem xor_left {a b c : Nat} (h : c ^^^ a = c ^^^ b) : a = b := by
  rw [Nat.xor_comm c a, Nat.xor_comm c b] at h
  exact xor_right h
theorem cstep_inj {c d : Nat} (hc : c < 4294967296) (hd : d < 4294967296) (h : cstep c = cstep d) : c = d := by
  have big : ∀ a : Nat, a < 2147483648 → 2147483648 ≤ a ^^^ 3988292384 := fun a ha => by
    rcases Nat.lt_or_ge (a ^^^ 3988292384) 2147483648 with hlt | hge
    · have := Nat.xor_lt_two_pow (n := 31) (x := a) (y := a ^^^ 3988292384) (by omega) (by omega)
      rw [← Nat.xor_assoc, Nat.xor_self, Nat.zero_xor] at this
      omega
    · exact hge
  unfold cstep at h
  by_cases h1 : c % 2 = 1 <;> by_cases h2 : d % 2 = 1
  · rw [if_pos h1, if_pos h2] at h
    have := xor_right h
    omega
  · rw [if_pos h1, if_neg h2] at h
    have := big (c / 2) (by omega)
    omega
  · rw [if_neg h1, if_pos h2] at h
    have := big (d / 2) (by omega)
    omega
  · rw [if_neg h1, if_neg h2] at h
    omega
theorem cstepN_inj : ∀ (k : Nat) {c d : Nat}, c < 4294967296 → d < 4294967296 → cstepN k c = cstepN k d → c = d
  | 0, _, _, _, _, h => h
  | k + 1, _, _, hc, hd, h => cstepN_inj k hc hd (cstep_inj (cstepN_lt k hc) (cstepN_lt k hd) h)
theorem xor_lt32 {c : Nat} (h : c < 4294967296) (x : UInt8) : c ^^^ x.toNat < 4294967296 := Nat.xor_lt_two_pow (n := 32) (by omega) (by have := x.toNat_lt; omega)
theorem crc1_inj {c d : Nat} (x : UInt8) (hc : c < 4294967296) (hd : d < 4294967296) (h : crc1 c x = crc1 d x) : c = d :=
  xor_right (cstepN_inj 8 (xor_lt32 hc x) (xor_lt32 hd x) h)
theorem crc1_byte {c : Nat} {x y : UInt8} (hc : c < 4294967296) (h : crc1 c x = crc1 c y) : x = y :=
  UInt8.toNat_inj.1 (xor_left (cstepN_inj 8 (xor_lt32 hc x) (xor_lt32 hc y) h))
theorem fold_inj : ∀ (l : List UInt8) {c d : Nat}, c < 4294967296 → d < 4294967296 → l.foldl crc1 c = l.foldl crc1 d → c = d
  | [], _, _, _, _, h => h
  | x :: l, _, _, hc, hd, h => crc1_inj x hc hd (fold_inj l (crc1_lt hc x) (crc1_lt hd x) h)
theorem crc_turn (p q : List UInt8) (x y : UInt8) (h : crc (p ++ x :: q) = crc (p ++ y :: q)) : x = y := by
  have h1 := crcF_lt (p ++ x :: q)
  have h2 := crcF_lt (p ++ y :: q)
  unfold crc at h
  have h3 : crcF (p ++ x :: q) = crcF (p ++ y :: q) := by omega
  unfold crcF at h3
  rw [List.foldl_append, List.foldl_append, List.foldl_cons, List.foldl_cons] at h3
  have hp := crcF_lt p
  exact crc1_byte hp (fold_inj q (crc1_lt hp x) (crc1_lt hp y) h3)
theorem fourB_inj {m n : Nat} (hm : m < 4294967296) (hn : n < 4294967296) (h : fourB m = fourB n) : m = n := by
  unfold fourB at h
  simp only [List.cons.injEq, and_true] at h
  obtain ⟨h1, h2, h3, h4⟩ := h
  have e : ∀ x y : Nat, UInt8.ofNat x = UInt8.ofNat y → x % 256 = y % 256 := fun x y h => by
    have := congrArg UInt8.toNat h
    rwa [UInt8.toNat_ofNat', UInt8.toNat_ofNat'] at this
  have := e _ _ h1; have := e _ _ h2; have := e _ _ h3; have := e _ _ h4
  omega
/-- One byte of the body or the check turned. -/
theorem unframe_turn (l p q : List UInt8) (x y : UInt8) (hl : l.length ≤ 65536) (hs : l ++ fourB (crc l) = p ++ x :: q) (hne : x ≠ y) : (unframeL (numB l.length ++ (p ++ y :: q))).2.2 = 13 := by
  have hn : l.length < 18446744073709551616 := by omega
  have hlen : l.length + 4 = p.length + (q.length + 1) := by
    have := congrArg List.length hs
    rw [List.length_append, List.length_append, fourB_len, List.length_cons] at this
    exact this
  unfold unframeL
  rw [numE_put hn, if_neg (by simp), if_neg (by simp; omega)]
  simp only
  obtain ⟨r, hr⟩ : ∃ r, r = p ++ y :: q := ⟨_, rfl⟩
  have hrl : r.length = l.length + 4 := by rw [hr, List.length_append, List.length_cons]; omega
  rw [← hr]
  have ha : rawE r 0 l.length = (r.take l.length, r.drop l.length, 0) := by unfold rawE; rw [if_pos rfl, if_pos (by omega)]
  have hc : rawE (r.drop l.length) 0 4 = ((r.drop l.length).take 4, (r.drop l.length).drop 4, 0) := by unfold rawE; rw [if_pos rfl, if_pos (by rw [List.length_drop]; omega)]
  simp only [ha, hc]
  rw [if_neg (by simp), if_pos]
  rw [List.take_of_length_le (by rw [List.length_drop]; omega)]
  intro he
  rcases Nat.lt_or_ge p.length l.length with hp | hp
  · obtain ⟨j, hj⟩ : ∃ j, l.length - p.length = j + 1 := ⟨l.length - p.length - 1, by omega⟩
    have e1 : l = p ++ x :: q.take j := by
      have := congrArg (List.take l.length) hs
      rw [List.take_left, List.take_append, List.take_of_length_le (by omega), hj, List.take_succ_cons] at this
      exact this
    have e2 : r.take l.length = p ++ y :: q.take j := by
      rw [hr, List.take_append, List.take_of_length_le (by omega), hj, List.take_succ_cons]
    have e3 : r.drop l.length = fourB (crc l) := by
      have h1 : r.drop l.length = q.drop j := by
        rw [hr, List.drop_append, List.drop_of_length_le (by omega), List.nil_append, hj, List.drop_succ_cons]
      have h2 := congrArg (List.drop l.length) hs
      rw [List.drop_left, List.drop_append, List.drop_of_length_le (by omega), List.nil_append, hj, List.drop_succ_cons] at h2
      rw [h1, h2]
    rw [e3] at he
    have h4 := fourB_inj (crc_lt _) (crc_lt _) he
    rw [e2] at h4
    have h5 : crc l = crc (p ++ x :: q.take j) := congrArg crc e1
    rw [h5] at h4
    exact hne (crc_turn _ _ _ _ h4)
  · have e1 : r.take l.length = l := by
      have h2 := congrArg (List.take l.length) hs
      rw [List.take_left, List.take_append_of_le_length hp] at h2
      rw [hr, List.take_append_of_le_length hp, ← h2]
    have e2 : r.drop l.length = p.drop l.length ++ y :: q := by rw [hr, List.drop_append_of_le_length hp]
    have e3 : fourB (crc l) = p.drop l.length ++ x :: q := by
      have h2 := congrArg (List.drop l.length) hs
      rwa [List.drop_left, List.drop_append_of_le_length hp] at h2
    rw [e1, e2, e3] at he
    have := List.append_cancel_left he
    injection this with h _
    exact hne h.symm
end Pk
end Go.Proofs.Ytpcbkkccaahdbaa
