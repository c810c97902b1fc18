/- Small laws of bits, in the walk's spelling. -/
import Derived.WalkKit
import Derived.Laws.BitsAllLaws
namespace Go.Proofs.Ytaglginhaofgeaa
open Go.RowKit
theorem or128 : ∀ x, x < 256 → x ||| 128 = 128 + x % 128 := by decide +kernel
theorem u8_or128m (m : Nat) : bits .or .u8 ((m : Int) % 256) 128 = ((128 + m % 128 : Nat) : Int) := by
  rw [u8_or _ _ (by omega) (by omega) (by omega) (by omega)]
  have h := or128 (m % 256) (by omega)
  have e1 : ((m : Int) % 256).toNat = m % 256 := by omega
  rw [e1, show (128 : Int).toNat = 128 from rfl, h]
  congr 1
  omega
theorem xor_ones (x : Nat) (h : x < 18446744073709551616) : x ^^^ 18446744073709551615 = 18446744073709551615 - x := by
  have e := congrArg BitVec.toNat (BitVec.xor_allOnes (x := BitVec.ofNat 64 x))
  simp only [BitVec.toNat_xor, BitVec.toNat_ofNat, BitVec.toNat_allOnes, BitVec.toNat_not] at e
  rw [Nat.mod_eq_of_lt (by simpa using h)] at e
  simpa using e
end Go.Proofs.Ytaglginhaofgeaa
