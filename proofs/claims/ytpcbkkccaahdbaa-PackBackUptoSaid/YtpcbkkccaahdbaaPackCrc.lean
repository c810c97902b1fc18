/- The check of a text: CRC-32; a number in four bytes. -/
import Derived.Test.YtpcbkkccaahdbaaPackSpec
import Derived.Test.YtpcbkkccaahdbaaBase
import Derived.Test.YtpcbkkccaahdbaaBits
import Derived.Test.YtpcbkkccaahdbaaProg
import Derived.Lib.Hide
import Derived.Lib.Strings
import Derived.Outline
namespace Go.Proofs.Ytpcbkkccaahdbaa
open Go.RowKit
namespace Pk
def cstep (c : Nat) : Nat := if c % 2 = 1 then c / 2 ^^^ 3988292384 else c / 2
def cstepN : Nat → Nat → Nat
  | 0, c => c
  | k + 1, c => cstep (cstepN k c)
def crc1 (c : Nat) (x : UInt8) : Nat := cstepN 8 (c ^^^ x.toNat)
def crcF (l : List UInt8) : Nat := l.foldl crc1 4294967295
def crc (l : List UInt8) : Nat := 4294967295 - crcF l
def fourB (n : Nat) : List UInt8 := [UInt8.ofNat (n / 16777216), UInt8.ofNat (n / 65536), UInt8.ofNat (n / 256), UInt8.ofNat n]
theorem cstep_lt {c : Nat} (h : c < 4294967296) : cstep c < 4294967296 := by
  unfold cstep
  split
  · exact Nat.xor_lt_two_pow (n := 32) (by omega) (by omega)
  · omega
theorem cstepN_lt : ∀ (k : Nat) {c : Nat}, c < 4294967296 → cstepN k c < 4294967296
  | 0, _, h => h
  | k + 1, _, h => cstep_lt (cstepN_lt k h)
theorem crc1_lt {c : Nat} (h : c < 4294967296) (x : UInt8) : crc1 c x < 4294967296 :=
  cstepN_lt 8 (Nat.xor_lt_two_pow (n := 32) (by omega) (by have := x.toNat_lt; omega))
theorem crcF_snoc (l : List UInt8) (x : UInt8) : crcF (l ++ [x]) = crc1 (crcF l) x := by simp [crcF]
theorem crcFold_lt : ∀ (l : List UInt8) {c : Nat}, c < 4294967296 → l.foldl crc1 c < 4294967296
  | [], _, h => h
  | x :: l, _, h => crcFold_lt l (crc1_lt h x)
theorem crcF_lt (l : List UInt8) : crcF l < 4294967296 := crcFold_lt l (by decide)
end Pk
open Pk
theorem step_bits (c : Nat) (h : c < 4294967296) : bits .xor .u32 ((c : Int) / 2) (bits .and .u32 3988292384 (-(bits .and .u32 (c : Int) 1) % 4294967296)) = (cstep c : Int) := by
  have h1 := u32_and_nat c 1 h (by decide)
  rw [Nat.and_one_is_mod] at h1
  rw [show (1 : Int) = ((1 : Nat) : Int) from rfl, h1, show (c : Int) / 2 = ((c / 2 : Nat) : Int) by omega]
  unfold cstep
  by_cases h2 : c % 2 = 1
  · rw [h2, if_pos rfl, show (-((1 : Nat) : Int)) % 4294967296 = ((4294967295 : Nat) : Int) by decide, show (3988292384 : Int) = ((3988292384 : Nat) : Int) from rfl,
      u32_and_nat _ _ (by decide) (by decide), show 3988292384 &&& 4294967295 = 3988292384 by decide, u32_xor_nat _ _ (by omega) (by decide)]
  · rw [show c % 2 = 0 by omega, if_neg (by decide), show (-((0 : Nat) : Int)) % 4294967296 = ((0 : Nat) : Int) by decide, show (3988292384 : Int) = ((3988292384 : Nat) : Int) from rfl,
      u32_and_nat _ _ (by decide) (by decide), show 3988292384 &&& 0 = 0 by decide, u32_xor_nat _ _ (by omega) (by decide), Nat.xor_zero]
theorem not_u32 (c : Nat) (h : c < 4294967296) : bits .xor .u32 IntKind.u32.max (c : Int) = ((4294967295 - c : Nat) : Int) := by
  rw [show IntKind.u32.max = ((4294967295 : Nat) : Int) from rfl, u32_xor_nat _ _ (by decide) h]
  have e := congrArg BitVec.toNat (BitVec.xor_allOnes (x := BitVec.ofNat 32 c))
  simp only [BitVec.toNat_xor, BitVec.toNat_ofNat, BitVec.toNat_allOnes, BitVec.toNat_not] at e
  rw [Nat.mod_eq_of_lt (by simpa using h)] at e
  rw [Nat.xor_comm]
  congr 1
set_option maxHeartbeats 1000000 in
set_option maxRecDepth 100000 in
theorem check_any (w : World) (S : ByteArray) (hs : S.size ≤ 9223372036854775000) :
    Calls Try.prog 39 #[.string S] w fun r w' => r = .returned (.int .u32 (crc S.data.toList)) ∧ w = w' := by
  go_enter Try.func39, Try.ntmps39
  go_wp2_with fail
  go_loop [3, 7] (fun c i => ∃ k : Nat, k ≤ S.size ∧ i = .int .i64 (k : Int) ∧ c = .int .u32 (crcF (S.data.toList.take k) : Int)) (fun _ i => S.size - (intOf i).toNat)
  case atStart => exact ⟨0, by omega, rfl, rfl⟩
  case round =>
    obtain ⟨k, hk, rfl, rfl⟩ := hrel
    by_cases hlt : k < S.size
    · have hx : ((S[k]'hlt).toNat : Int) < 256 := by have := (S[k]'hlt).toNat_lt; omega
      obtain ⟨c, hc⟩ : ∃ c, Hid (c = crcF (S.data.toList.take k)) := ⟨_, rfl⟩
      have hcl : c < 4294967296 := by rw [hc.out]; exact crcF_lt _
      rw [← hc.out]
      have hxor := u32_xor_nat c (S[k]'hlt).toNat hcl (by omega)
      obtain ⟨c0, hc0⟩ : ∃ c0, Hid (c0 = c ^^^ (S[k]'hlt).toNat) := ⟨_, rfl⟩
      have hc0l : c0 < 4294967296 := by rw [hc0.out]; exact Nat.xor_lt_two_pow (n := 32) (by omega) (by omega)
      rw [← hc0.out] at hxor
      go_wp2_with fail
      go_loop [3, 16] (fun c j => ∃ m : Nat, m ≤ 8 ∧ j = .int .i64 (m : Int) ∧ c = .int .u32 (cstepN m c0 : Int)) (fun _ j => 8 - (intOf j).toNat)
      case atStart => exact ⟨0, by omega, rfl, rfl⟩
      case round =>
        obtain ⟨m, hm, rfl, rfl⟩ := hrel
        by_cases hm8 : m < 8
        · obtain ⟨d, hd⟩ : ∃ d, Hid (d = cstepN m c0) := ⟨_, rfl⟩
          have hdl : d < 4294967296 := by rw [hd.out]; exact cstepN_lt _ hc0l
          rw [← hd.out]
          have hsb := step_bits d hdl
          go_wp2
          go_round
          case rel => exact ⟨m + 1, by omega, by go_num, by show _ = Value.int .u32 (cstep (cstepN m c0) : Int); rw [← hd.out]⟩
          case measure => simp [intOf]; omega
        · obtain rfl : m = 8 := by omega
          go_wp2
          go_round
          case rel =>
            refine ⟨k + 1, by omega, by go_num, ?_⟩
            rw [List.take_succ_eq_append_getElem (by simpa using hlt), crcF_snoc, ← hc.out, hc0.out]
            rfl
          case measure => simp [intOf]; omega
    · obtain rfl : k = S.size := by omega
      rw [List.take_of_length_le (by simp)]
      obtain ⟨c, hc⟩ : ∃ c, Hid (c = crcF S.data.toList) := ⟨_, rfl⟩
      have hcl : c < 4294967296 := by rw [hc.out]; exact crcF_lt _
      rw [← hc.out]
      go_wp2
      go_ret
      refine ⟨ret_val ?_, rfl⟩
      unfold crc
      rw [← hc.out]
      exact congrArg (Value.int .u32) (not_u32 c hcl)
set_option maxHeartbeats 1000000 in
set_option maxRecDepth 100000 in
theorem run_four (w : World) (n : Nat) (hn : n < 4294967296) : (convert 28 9 (.slice (some ⟨w.heap.size, 0, none⟩) 4 4)).run Try.prog (w.alloc (.cells #[.int .u8 ((n : Int) / 16777216), .int .u8 ((n : Int) / 65536 % 256), .int .u8 ((n : Int) / 256 % 256), .int .u8 ((n : Int) % 256)] 5)) =
    .ok (.string ⟨(fourB n).toArray⟩) (w.alloc (.cells #[.int .u8 ((n : Int) / 16777216), .int .u8 ((n : Int) / 65536 % 256), .int .u8 ((n : Int) / 256 % 256), .int .u8 ((n : Int) % 256)] 5)) := by
  have h := run_convert_bytes_arg (P := Try.prog) (w.alloc (.cells #[.int .u8 ((n : Int) / 16777216), .int .u8 ((n : Int) / 65536 % 256), .int .u8 ((n : Int) / 256 % 256), .int .u8 ((n : Int) % 256)] 5)) 28 5 Try.underlying28 Try.underlying5 w.heap.size 0 4 4
    [(n : Int) / 16777216, (n : Int) / 65536 % 256, (n : Int) / 256 % 256, (n : Int) % 256] rfl (fun i hi => by
      rw [(Has.new w 5 [.int .u8 ((n : Int) / 16777216), .int .u8 ((n : Int) / 65536 % 256), .int .u8 ((n : Int) / 256 % 256), .int .u8 ((n : Int) % 256)]).cell]
      match i, hi with
      | 0, _ => rfl
      | 1, _ => rfl
      | 2, _ => rfl
      | 3, _ => rfl) 9 Try.underlying9
  rw [h]
  congr 2
  unfold strOfNums fourB
  congr 2
  have e : ∀ (x y : Nat), x % 256 = y % 256 → UInt8.ofNat x = UInt8.ofNat y := fun x y h => UInt8.toNat_inj.1 (by rw [UInt8.toNat_ofNat', UInt8.toNat_ofNat']; exact h)
  simp only [List.map_cons, List.map_nil]
  rw [e ((n : Int) / 16777216).toNat (n / 16777216) (by omega), e ((n : Int) / 65536 % 256).toNat (n / 65536) (by omega), e ((n : Int) / 256 % 256).toNat (n / 256) (by omega), e ((n : Int) % 256).toNat n (by omega)]
set_option maxHeartbeats 1000000 in
set_option maxRecDepth 100000 in
theorem four_any (w : World) (n : Nat) (hn : n < 4294967296) :
    Calls Try.prog 38 #[.int .u32 n] w fun r w' => r = .returned (.string ⟨(fourB n).toArray⟩) ∧ Fr w.heap.size [] w w' := by
  go_enter Try.func38, Try.ntmps38
  go_wp2
  rw [run_four w n hn]
  simp only [Result.andThen]
  rw [Oper.upon_value]
  go_wp2
  go_ret
  exact ⟨rfl, (Fr.refl _ _ _).alloc (Nat.le_refl _) _⟩
end Go.Proofs.Ytpcbkkccaahdbaa
