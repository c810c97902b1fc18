/- The reader's Num: a number is taken up. -/
import Derived.Test.YtaglginhaofgeaaPackRead
-- cut
namespace Go.Proofs.Ytaglginhaofgeaa
open Go.RowKit
namespace Pk
/-- A string of these bytes. -/
def mkS (l : List UInt8) : ByteArray := ⟨l.toArray⟩
theorem mkS_size (l : List UInt8) : (mkS l).size = l.length := by simp [mkS, ByteArray.size]
theorem mkS_list (l : List UInt8) : (mkS l).data.toList = l := by simp [mkS]
theorem mkS_of (S : ByteArray) : mkS S.data.toList = S := by simp [mkS]
theorem mkS_nil : mkS [] = ByteArray.empty := rfl
theorem mkS_extract (l : List UInt8) (a b : Nat) : (mkS l).extract a b = mkS ((l.drop a).take (b - a)) := by
  apply ByteArray.ext
  rw [ByteArray.data_extract]
  apply Array.toList_inj.1
  simp [mkS]
theorem mkS_take (l : List UInt8) (n : Nat) : (mkS l).extract 0 n = mkS (l.take n) := by rw [mkS_extract]; simp
theorem mkS_drop (l : List UInt8) (n : Nat) : (mkS l).extract n (mkS l).size = mkS (l.drop n) := by
  rw [mkS_extract, mkS_size, List.take_of_length_le (by simp)]
theorem mkS_get (l : List UInt8) (i : Nat) (h : i < (mkS l).size) : (mkS l)[i] = l[i]'(by rwa [mkS_size] at h) := by
  simp [mkS]
  rfl
/-- What Num comes to: the number, the rest, the error. -/
def numD (i acc : Nat) : List UInt8 → Nat × List UInt8 × Int
  | [] => (0, [], 10)
  | c :: r => if (i = 9 ∧ 1 < c.toNat) ∨ (0 < i ∧ c.toNat = 0) then (0, [], 11) else if c.toNat < 128 then (acc + c.toNat * 128 ^ i, r, 0) else numD (i + 1) (acc + (c.toNat - 128) * 128 ^ i) r
theorem numD_cons (i acc : Nat) (c : UInt8) (r : List UInt8) : numD i acc (c :: r) = if (i = 9 ∧ 1 < c.toNat) ∨ (0 < i ∧ c.toNat = 0) then (0, [], 11) else if c.toNat < 128 then (acc + c.toNat * 128 ^ i, r, 0) else numD (i + 1) (acc + (c.toNat - 128) * 128 ^ i) r := rfl
end Pk
open Pk
theorem or_shift (acc k c : Nat) (ha : acc < 128 ^ k) (hc : c * 128 ^ k < 18446744073709551616) (ha2 : acc < 18446744073709551616) :
    bits .or .u64 (acc : Int) (IntKind.u64.wrap ((c : Int) * 2 ^ (7 * k))) = ((acc + c * 128 ^ k : Nat) : Int) := by
  have e : ((c : Int) * 2 ^ (7 * k)) = ((c * 128 ^ k : Nat) : Int) := by
    have h2 : ((128 ^ k : Nat) : Int) = 2 ^ (7 * k) := by rw [show (128 : Nat) = 2 ^ 7 from rfl, ← Nat.pow_mul]; simp
    rw [← h2]; simp
  rw [e, IntKind.wrap_u64, Int.emod_eq_of_lt (by omega) (by omega), u64_or_nat _ _ ha2 hc]
  congr 1
  have h128 : 128 ^ k = 2 ^ (7 * k) := by rw [Nat.pow_mul]
  rw [h128] at ha ⊢
  rw [Nat.or_comm, Nat.mul_comm c, ← Nat.two_pow_add_eq_or_of_lt ha, Nat.add_comm]
theorem and127 (c : Nat) (h : c < 256) : bits .and .u8 (c : Int) 127 = ((c % 128 : Nat) : Int) := by
  have := bits_mask .u8 8 (by decide) wraps_u8 7 (by decide) (c : Int) (by omega) (by omega)
  rw [show (2 : Int) ^ 7 - 1 = 127 from rfl, show (2 : Int) ^ 7 = 128 from rfl] at this
  rw [this]
  omega
theorem pow128_le {k : Nat} (h : k ≤ 9) : 128 ^ k ≤ 9223372036854775808 := Nat.le_trans (Nat.pow_le_pow_right (by decide) h) (by decide)
theorem pow128_le8 {k : Nat} (h : k ≤ 8) : 128 ^ k ≤ 72057594037927936 := Nat.le_trans (Nat.pow_le_pow_right (by decide) h) (by decide)
/-- The reader in block b, by the list of what is left. -/
def RdL (w : World) (b : Nat) (l : List UInt8) (e : Int) : Prop := Rd w b (mkS l) e
theorem rawL_ok (w : World) (b : Nat) (l : List UInt8) (n : Nat) (h : RdL w b l 0) (hn : n ≤ l.length) :
    Calls Try.prog 67 #[.pointer (some ⟨b, 0, none⟩), .int .i64 n] w fun r w' => r = .returned (.string (mkS (l.take n))) ∧ RdL w' b (l.drop n) 0 ∧ One b w w' := by
  have := raw_ok w b (mkS l) n h (by rw [mkS_size]; exact hn)
  rw [mkS_take, mkS_drop] at this
  exact this
theorem rawL_short (w : World) (b : Nat) (l : List UInt8) (n : Nat) (h : RdL w b l 0) (hn : l.length < n) (hs : n ≤ 9223372036854775807) :
    Calls Try.prog 67 #[.pointer (some ⟨b, 0, none⟩), .int .i64 n] w fun r w' => r = .returned (.string ByteArray.empty) ∧ RdL w' b [] 10 ∧ One b w w' :=
  raw_short w b (mkS l) n h (by rw [mkS_size]; exact hn) hs
theorem raw_one (w : World) (b : Nat) (c : UInt8) (r : List UInt8) (S1 : ByteArray) (hS : S1 = mkS [c]) (h : RdL w b (c :: r) 0) :
    Calls Try.prog 67 #[.pointer (some ⟨b, 0, none⟩), .int .i64 1] w fun e w' => e = .returned (.string S1) ∧ RdL w' b r 0 ∧ One b w w' := by
  have := rawL_ok w b (c :: r) 1 h (by simp)
  rw [hS]
  exact this
set_option maxHeartbeats 2000000 in
set_option maxRecDepth 100000 in
theorem num_ok (w : World) (b : Nat) (l : List UInt8) (h : RdL w b l 0) :
    Calls Try.prog 48 #[.pointer (some ⟨b, 0, none⟩)] w fun r w' => r = .returned (.int .u64 (numD 0 0 l).1) ∧ RdL w' b (numD 0 0 l).2.1 (numD 0 0 l).2.2 ∧ One b w w' := by
  go_enter Try.func48, Try.ntmps48
  go_wp2_with fail
  go_loopw [3, 4] (fun n i wr => ∃ k acc : Nat, i = .int .i64 (k : Int) ∧ n = .int .u64 (acc : Int) ∧ k ≤ 10 ∧ One b w wr ∧
      ((∃ l', RdL wr b l' 0 ∧ k ≤ 9 ∧ acc < 128 ^ k ∧ numD k acc l' = numD 0 0 l) ∨ (RdL wr b [] 11 ∧ numD 0 0 l = (0, [], 11)))) (fun _ i _ => 11 - (intOf i).toNat)
  case atStart => exact ⟨0, 0, rfl, rfl, by omega, One.refl _ _, .inl ⟨l, h, by omega, by decide, rfl⟩⟩
  case round =>
    clear h
    obtain ⟨k, acc, rfl, rfl, hk, hO, hR | hR⟩ := hrel
    · obtain ⟨l', hRd, hk9, hacc, hnum⟩ := hR
      have hacc2 : acc < 18446744073709551616 := by have := pow128_le hk9; omega
      cases l' with
      | nil =>
        have HN := Lib.hid hnum
        clear hnum hacc
        go_wp2_with (first
          | (go_at_call 67; (refine (rawL_short wr b [] 1 hRd (by simp) (by decide)).mono ?_); rintro e w2 ⟨rfl, h2, o2⟩)
          | (go_at_call 66; (refine (good_yes wr b _ hRd).mono ?_); rintro e w1 ⟨rfl, rfl⟩))
        go_ret
        rw [← HN.out]
        exact ⟨rfl, h2, hO.trans o2⟩
      | cons c r =>
        obtain ⟨S1, hS1⟩ : ∃ S1, Hid (S1 = mkS [c]) := ⟨_, rfl⟩
        have hz1 : S1.size = 1 := by rw [hS1.out]; rfl
        have he1 := nonempty_bool (S := S1) (by omega)
        have hx : ((S1[0]'(by omega)).toNat : Int) = c.toNat := by
          have := mkS_get [c] 0 (by rw [mkS_size]; simp)
          simp only [hS1.out, this]
          rfl
        have hc256 : c.toNat < 256 := c.toNat_lt
        rw [numD_cons] at hnum
        by_cases hbad : (k = 9 ∧ 1 < c.toNat) ∨ (0 < k ∧ c.toNat = 0)
        · rw [if_pos hbad] at hnum
          have HN := Lib.hid hnum
          clear hnum hacc
          rcases hbad with ⟨rfl, hb⟩ | ⟨hk0, hb⟩
          · go_wp2_with (first
              | (go_at_call 49; (refine (fail_yes w2 b _ 11 h2 (by decide)).mono ?_); rintro e w3 ⟨rfl, h3, o3⟩)
              | (go_at_call 67; (refine (raw_one wr b c r S1 hS1.out hRd).mono ?_); rintro e w2 ⟨rfl, h2, o2⟩)
              | (go_at_call 66; (refine (good_yes wr b _ hRd).mono ?_); rintro e w1 ⟨rfl, rfl⟩))
            all_goals
              go_roundw
              case rel => exact ⟨10, acc, by go_num, rfl, by omega, (hO.trans o2).trans o3, .inr ⟨h3, HN.out.symm⟩⟩
              case measure => simp [intOf]
          · have hbb : ((c.toNat : Int) == 0) = true := by rw [beq_iff_eq]; omega
            have hc1 : (c.toNat : Int) ≤ 1 := by omega
            go_wp2_with (first
              | (go_at_call 49; (refine (fail_yes w2 b _ 11 h2 (by decide)).mono ?_); rintro e w3 ⟨rfl, h3, o3⟩)
              | (go_at_call 67; (refine (raw_one wr b c r S1 hS1.out hRd).mono ?_); rintro e w2 ⟨rfl, h2, o2⟩)
              | (go_at_call 66; (refine (good_yes wr b _ hRd).mono ?_); rintro e w1 ⟨rfl, rfl⟩))
            all_goals
              go_roundw
              case rel => exact ⟨k + 1, acc, by go_num, rfl, by omega, (hO.trans o2).trans o3, .inr ⟨h3, HN.out.symm⟩⟩
              case measure => simp [intOf]; omega
        · rw [if_neg hbad] at hnum
          by_cases hlast : c.toNat < 128
          · rw [if_pos hlast] at hnum
            have HN := Lib.hid hnum
            have HA := Lib.hid hacc
            clear hnum hacc
            go_wp2_with (first
              | (go_at_call 67; (refine (raw_one wr b c r S1 hS1.out hRd).mono ?_); rintro e w2 ⟨rfl, h2, o2⟩)
              | (go_at_call 66; (refine (good_yes wr b _ hRd).mono ?_); rintro e w1 ⟨rfl, rfl⟩))
            all_goals
              go_ret
              rw [← HN.out]
              refine ⟨ret_val ?_, h2, hO.trans o2⟩
            · obtain rfl : k = 9 := by omega
              have := or_shift acc 9 c.toNat HA.out (by omega) hacc2
              rw [IntKind.wrap_u64, Int.emod_eq_of_lt (by omega) (by omega)] at this
              exact congrArg (Value.int .u64) this
            all_goals
              have h8 := pow128_le8 (k := k) (by omega)
              have hm : c.toNat * 128 ^ k ≤ 127 * 72057594037927936 := Nat.mul_le_mul (by omega) h8
              exact congrArg (Value.int .u64) (or_shift acc k c.toNat HA.out (by omega) hacc2)
          · rw [if_neg hlast] at hnum
            have HN := Lib.hid hnum
            have HA := Lib.hid hacc
            clear hnum hacc
            have ha := and127 c.toNat hc256
            go_wp2_with (first
              | (go_at_call 67; (refine (raw_one wr b c r S1 hS1.out hRd).mono ?_); rintro e w2 ⟨rfl, h2, o2⟩)
              | (go_at_call 66; (refine (good_yes wr b _ hRd).mono ?_); rintro e w1 ⟨rfl, rfl⟩))
            all_goals
              have h8 := pow128_le8 (k := k) (by omega)
              have hm : (c.toNat - 128) * 128 ^ k ≤ 127 * 72057594037927936 := Nat.mul_le_mul (by omega) h8
              have hor := or_shift acc k (c.toNat - 128) HA.out (by omega) hacc2
              go_roundw
              case rel =>
                refine ⟨k + 1, acc + (c.toNat - 128) * 128 ^ k, by go_num, ?_, by omega, hO.trans o2, .inl ⟨r, h2, by omega, ?_, HN.out⟩⟩
                · rw [show (c.toNat : Int) % 128 = ((c.toNat - 128 : Nat) : Int) by omega]
                  exact congrArg (Value.int .u64) hor
                · have := Nat.mul_le_mul_right (128 ^ k) (show c.toNat - 128 ≤ 127 by omega)
                  have ha := HA.out
                  rw [Nat.pow_succ]
                  omega
              case measure => simp [intOf]; omega
    · obtain ⟨hRd, hnum⟩ := hR
      have HN := Lib.hid hnum
      clear hnum
      go_wp2_with (go_at_call 66; (refine (good_no wr b _ 11 hRd (by decide)).mono ?_); rintro e w1 ⟨rfl, rfl⟩)
      go_ret
      rw [HN.out]
      exact ⟨rfl, hRd, hO⟩
end Go.Proofs.Ytaglginhaofgeaa
