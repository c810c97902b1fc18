/- The reader's other methods, as functions of what is left and the error. -/
import Derived.Test.YtaglginhaofgeaaPackNum
import Derived.WalkLawsBesides
-- cut
namespace Go.Proofs.Ytaglginhaofgeaa
open Go.RowKit
namespace Pk
def numE (l : List UInt8) (e : Int) : Nat × List UInt8 × Int := if e = 0 then numD 0 0 l else (0, l, e)
def rawE (l : List UInt8) (e : Int) (n : Nat) : List UInt8 × List UInt8 × Int := if e = 0 then (if n ≤ l.length then (l.take n, l.drop n, 0) else ([], [], 10)) else ([], l, e)
def zag (n : Nat) : Int := if n % 2 = 0 then (n / 2 : Nat) else -((n / 2 : Nat) : Int) - 1
def intE (l : List UInt8) (e : Int) : Int × List UInt8 × Int := (zag (numE l e).1, (numE l e).2)
def flagD : List UInt8 → Bool × List UInt8 × Int
  | [] => (false, [], 10)
  | c :: r => if 1 < c.toNat then (false, [], 11) else (c.toNat == 1, r, 0)
def flagE (l : List UInt8) (e : Int) : Bool × List UInt8 × Int := if e = 0 then flagD l else (false, l, e)
def manyE (l : List UInt8) (e : Int) (least : Int) : Nat × List UInt8 × Int :=
  if (numE l e).2.2 = 0 then (if (numE l e).2.1.length / (max least 1).toNat < (numE l e).1 then (0, [], 10) else numE l e) else (0, (numE l e).2)
def textE (l : List UInt8) (e : Int) : List UInt8 × List UInt8 × Int := rawE (manyE l e 1).2.1 (manyE l e 1).2.2 (manyE l e 1).1
theorem numD_fst : ∀ (l : List UInt8) (i acc : Nat), i ≤ 9 → acc < 128 ^ i → (numD i acc l).1 < 18446744073709551616 ∧ (numD i acc l).2.1.length ≤ l.length ∧ ((numD i acc l).2.2 ≠ 0 → numD i acc l = (0, [], (numD i acc l).2.2))
  | [], i, acc, _, _ => by simp [numD]
  | c :: r, i, acc, hi, ha => by
    rw [numD_cons]
    have hc := c.toNat_lt
    have hp := pow128_le hi
    split
    · simp
    · rename_i hb
      split
      · rename_i hl
        refine ⟨?_, by simp, fun h => absurd rfl h⟩
        show acc + c.toNat * 128 ^ i < _
        by_cases h9 : i = 9
        · subst h9; omega
        · have h8 := pow128_le8 (k := i) (by omega)
          have := Nat.mul_le_mul (show c.toNat ≤ 127 by omega) h8
          omega
      · rename_i hl
        have h9 : i ≠ 9 := fun h => hb (.inl ⟨h, by omega⟩)
        have := Nat.mul_le_mul_right (128 ^ i) (show c.toNat - 128 ≤ 127 by omega)
        obtain ⟨h1, h2, h3⟩ := numD_fst r (i + 1) (acc + (c.toNat - 128) * 128 ^ i) (by omega) (by rw [Nat.pow_succ]; omega)
        exact ⟨h1, by simp; omega, h3⟩
theorem numE_lt (l : List UInt8) (e : Int) : (numE l e).1 < 18446744073709551616 := by
  unfold numE; split
  · exact (numD_fst l 0 0 (by decide) (by decide)).1
  · exact (by decide : 0 < 18446744073709551616)
theorem numE_len (l : List UInt8) (e : Int) : (numE l e).2.1.length ≤ l.length := by
  unfold numE; split
  · exact (numD_fst l 0 0 (by decide) (by decide)).2.1
  · exact Nat.le_refl _
end Pk
open Pk
theorem i64_neg1 (x : Nat) (h : x < 9223372036854775808) : bits .xor .i64 (x : Int) (-1) = -(x : Int) - 1 := by
  show IntKind.i64.wrap ((BitVec.ofInt 64 (x : Int) ^^^ BitVec.ofInt 64 (-1)).toNat : Int) = _
  rw [show BitVec.ofInt 64 (-1) = BitVec.allOnes 64 by decide, BitVec.xor_allOnes, BitVec.toNat_not, ofInt_u64 x (by omega), IntKind.wrap_i64]
  omega
theorem i64_xor0 (x : Nat) (h : x < 9223372036854775808) : bits .xor .i64 (x : Int) 0 = x := by
  show IntKind.i64.wrap ((BitVec.ofInt 64 (x : Int) ^^^ BitVec.ofInt 64 0).toNat : Int) = _
  rw [show BitVec.ofInt 64 0 = 0#64 by decide, BitVec.xor_zero, ofInt_u64 x (by omega), IntKind.wrap_i64]
  omega
theorem zag_bits (n : Nat) (h : n < 18446744073709551616) : bits .xor .i64 ((n : Int) / 2) (wrap64 (-wrap64 (bits .and .u64 (n : Int) 1))) = zag n := by
  have ha : bits .and .u64 (n : Int) 1 = ((n % 2 : Nat) : Int) := by
    have := u64_and_nat n 1 h (by decide)
    rw [Nat.and_one_is_mod] at this
    exact this
  rw [ha]
  unfold zag
  rw [show (n : Int) / 2 = ((n / 2 : Nat) : Int) by omega]
  by_cases h2 : n % 2 = 0
  · rw [h2, if_pos rfl, show wrap64 (-wrap64 ((0 : Nat) : Int)) = 0 by unfold wrap64; omega]
    exact i64_xor0 _ (by omega)
  · rw [show n % 2 = 1 by omega, if_neg (by decide), show wrap64 (-wrap64 ((1 : Nat) : Int)) = -1 by unfold wrap64; omega]
    exact i64_neg1 _ (by omega)
theorem numE_any (w : World) (b : Nat) (l : List UInt8) (e : Int) (h : RdL w b l e) :
    Calls Try.prog 48 #[.pointer (some ⟨b, 0, none⟩)] w fun r w' => r = .returned (.int .u64 (numE l e).1) ∧ RdL w' b (numE l e).2.1 (numE l e).2.2 ∧ One b w w' := by
  by_cases he : e = 0
  · subst he
    unfold numE
    rw [if_pos rfl]
    exact num_ok w b l h
  · unfold numE
    rw [if_neg he]
    go_enter Try.func48, Try.ntmps48
    go_wp2_with fail
    refine wp_loop_rounds 1 ?_
    rw [rounds_succ]
    go_wp2_with (go_at_call 66; (refine (good_no w b _ e h he).mono ?_); rintro e w1 ⟨rfl, rfl⟩)
    go_ret
    exact ⟨rfl, h, One.refl _ _⟩
theorem rawE_any (w : World) (b : Nat) (l : List UInt8) (e : Int) (n : Nat) (h : RdL w b l e) (hn : n ≤ 9223372036854775807) :
    Calls Try.prog 67 #[.pointer (some ⟨b, 0, none⟩), .int .i64 n] w fun r w' => r = .returned (.string (mkS (rawE l e n).1)) ∧ RdL w' b (rawE l e n).2.1 (rawE l e n).2.2 ∧ One b w w' := by
  unfold rawE
  by_cases he : e = 0
  · subst he
    rw [if_pos rfl]
    by_cases hl : n ≤ l.length
    · rw [if_pos hl]; exact rawL_ok w b l n h hl
    · rw [if_neg hl]; exact rawL_short w b l n h (by omega) hn
  · rw [if_neg he]
    refine (raw_bad w b (mkS l) n e h he).mono fun r w' ⟨h1, h2⟩ => ⟨h1, h2 ▸ h, h2 ▸ One.refl _ _⟩
set_option maxHeartbeats 1000000 in
set_option maxRecDepth 100000 in
theorem manyE_any (w : World) (b : Nat) (l : List UInt8) (e least : Int) (h : RdL w b l e) (hl : l.length ≤ 4611686018427387904) (h0 : -9223372036854775808 ≤ least) (h1 : least ≤ 9223372036854775807) :
    Calls Try.prog 47 #[.pointer (some ⟨b, 0, none⟩), .int .i64 least] w fun r w' => r = .returned (.int .i64 (manyE l e least).1) ∧ RdL w' b (manyE l e least).2.1 (manyE l e least).2.2 ∧ One b w w' := by
  have hlt := numE_lt l e
  have hle := numE_len l e
  have hnum := numE_any w b l e h
  unfold manyE
  obtain ⟨q, hq⟩ : ∃ q, Hid (q = numE l e) := ⟨_, rfl⟩
  rw [← hq.out] at hlt hnum hle ⊢
  obtain ⟨n, r, e2⟩ := q
  simp only at hlt hle hnum ⊢
  by_cases he : e2 = 0
  · subst he
    rw [if_pos rfl]
    obtain ⟨D, hD⟩ : ∃ D, Hid (D = r.length / (max least 1).toNat) := ⟨_, rfl⟩
    rw [← hD.out]
    have hDr : D ≤ r.length := by rw [hD.out]; exact Nat.div_le_self _ _
    by_cases hl1 : least < 1
    all_goals
      have hw : ∀ x : Int, x = D → IntKind.u64.wrap (wrap64 x) = (D : Int) := fun x hx => by
        rw [hx, IntKind.wrap_u64]; unfold wrap64; omega
      first
        | (have hwD := hw (((mkS r).size : Int) / 1) (by
            rw [mkS_size, hD.out, show (max least 1).toNat = 1 by omega]; omega)
           rw [Int.ediv_one] at hwD)
        | (have hwD := hw (((mkS r).size : Int) / least) (by
            obtain ⟨m, rfl⟩ := Int.eq_ofNat_of_zero_le (show 0 ≤ least by omega)
            rw [mkS_size, hD.out, show (max (m : Int) 1).toNat = m by omega]; omega))
      clear hw
      by_cases hcmp : D < n
      · rw [if_pos hcmp]
        have hci : (D : Int) < (n : Int) := by omega
        go_enter Try.func47, Try.ntmps47
        go_wp2_with (first
          | (go_at_call 66; (refine (good_no w2 b _ 10 h2 (by decide)).mono ?_); rintro e w3 ⟨rfl, rfl⟩)
          | (go_at_call 49; (refine (fail_yes w1 b _ 10 h1 (by decide)).mono ?_); rintro e w2 ⟨rfl, h2, o2⟩)
          | (go_at_call 66; (refine (good_yes w1 b (mkS r) h1).mono ?_); rintro e w2 ⟨rfl, rfl⟩; obtain ⟨c0, c1, z0, z1⟩ := Rd.cells h1)
          | (go_at_call 48; (refine hnum.mono ?_); rintro e w1 ⟨rfl, h1, o1⟩))
        go_ret
        exact ⟨rfl, h2, o1.trans o2⟩
      · rw [if_neg hcmp]
        have hci : ¬ ((D : Int) < (n : Int)) := by omega
        have hw64 : wrap64 (n : Int) = n := by unfold wrap64; omega
        go_enter Try.func47, Try.ntmps47
        go_wp2_with (first
          | (go_at_call 66; (refine (good_yes w1 b (mkS r) h1).mono ?_); rintro e w2 ⟨rfl, rfl⟩; obtain ⟨c0, c1, z0, z1⟩ := Rd.cells h1)
          | (go_at_call 48; (refine hnum.mono ?_); rintro e w1 ⟨rfl, h1, o1⟩))
        go_ret
        exact ⟨rfl, h1, o1⟩
  · rw [if_neg he]
    go_enter Try.func47, Try.ntmps47
    go_wp2_with (first
      | (go_at_call 66; (refine (good_no w1 b (mkS r) e2 h1 he).mono ?_); rintro e w2 ⟨rfl, rfl⟩)
      | (go_at_call 48; (refine hnum.mono ?_); rintro e w1 ⟨rfl, h1, o1⟩))
    go_ret
    exact ⟨rfl, h1, o1⟩
end Go.Proofs.Ytaglginhaofgeaa
