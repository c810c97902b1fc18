/- The reference's bytes of numbers, integers, flags, texts. -/
import Derived.Test.YtaglginhaofgeaaPackSpec
import Derived.Test.YtaglginhaofgeaaBase
import Derived.Test.YtaglginhaofgeaaBits
import Derived.Test.YtaglginhaofgeaaProg
import Derived.Lib.Hide
import Derived.Lib.UnsafeStr
-- cut
namespace Go.Proofs.Ytaglginhaofgeaa
open Go.RowKit
open Pk
theorem strOf_bytes (l : List UInt8) : strOfNums (l.map fun x => (x.toNat : Int)) = ⟨l.toArray⟩ := by
  unfold strOfNums
  rw [List.map_map]
  congr 1
  congr 1
  refine (List.map_congr_left fun x _ => ?_).trans (List.map_id l)
  simp
theorem run_string_bytes {P : Program} {w : World} {base src e dst n : Nat} {v : Value} {l : List UInt8} (hs : P.underlying src = some (.slice e)) (he : P.underlying e = some (.int .u8)) (hd : P.underlying dst = some .string)
    (hown : w.ownsRow base e 1 v n (Lib.byteCells l)) : (convert src dst v).run P w = .ok (.string ⟨l.toArray⟩) w := by
  rw [← strOf_bytes]
  refine run_string_own (base := base) (n := n) hs he hd ?_
  rw [List.map_map]
  exact hown
theorem byteCells_snoc (l : List UInt8) (c : Int) (h0 : 0 ≤ c) (h1 : c < 256) : Lib.byteCells l ++ [.int .u8 c] = Lib.byteCells (l ++ [UInt8.ofNat c.toNat]) := by
  have : ((UInt8.ofNat c.toNat).toNat : Int) = c := by rw [UInt8.toNat_ofNat']; omega
  simp [Lib.byteCells, -UInt8.toNat_ofNat', this]
theorem ones_one {v : Value} (h : v.oneCell' = true) : ∀ u ∈ [v], u.oneCell' = true := fun u hu => by rw [List.mem_singleton.1 hu]; exact h
theorem infoB : (Try.prog.info? 5).map (fun i => (i.zero, i.size, i.bytes)) = some (some (.int .u8 0), 1, 1) := by kernel_rfl
set_option maxHeartbeats 1000000 in
set_option maxRecDepth 100000 in
theorem rNum_any (w : World) (n : Nat) (hn : n < 18446744073709551616) :
    Calls Try.prog 60 #[.int .u64 n] w fun e w' => e = .returned (.string ⟨(numB n).toArray⟩) ∧ Fr w.heap.size [] w w' := by
  obtain ⟨i0, hi, hz0, hz1, hz2⟩ := info_parts infoB
  have hl10 := numB_len10 hn
  go_enter Try.func60, Try.ntmps60
  go_wp2
  go_loopw [0, 3] (fun v s wr => ∃ (m : Nat) (l1 : List UInt8), v = .int .u64 (m : Int) ∧ m < 18446744073709551616 ∧ wr.ownsRow w.heap.size 5 1 s l1.length (Lib.byteCells l1) ∧ l1 ++ numB m = numB n ∧ Fr w.heap.size [] w wr) (fun v _ _ => (intOf v).toNat)
  case atStart => exact ⟨n, [], rfl, hn, World.ownsRow_nil _ _ _ _, rfl, Fr.refl _ _ _⟩
  case round =>
    obtain ⟨m, l1, rfl, hm, hB, heq, hF⟩ := hrel
    have HE := Lib.hid heq
    have hl1 : l1.length + (numB m).length ≤ 10 := by
      rw [← List.length_append, heq]; omega
    clear heq
    have hsz := hF.size
    by_cases hlt : m < 128
    · rw [numB_small hlt] at hl1
      have hl2 : l1.length + 1 ≤ 10 := by simpa using hl1
      go_wp2_with (at_builtin; (refine wpList_append_has (by rfl) (.tmp 15) (.tmp 18) 75 rfl w.heap.size 5 i0 (.int .u8 0) 1 1 Try.underlying75 hi hz0 hz1 hz2 rfl (by decide) _ l1.length _ rfl (hB.alloc _) wr.heap.size 1 [.int .u8 (m : Int)] rfl (Has.new wr 5 _) rfl (ones_one rfl) (by unfold maxLen; omega) (by omega) (by simp; omega) ?_; intro v' w2 hB2 hg2 hv2))
      rw [byteCells_snoc l1 m (by omega) (by omega)] at hB2
      have hcv := run_string_bytes (P := Try.prog) Try.underlying75 Try.underlying5 Try.underlying9 hB2
      obtain ⟨S, HS⟩ : ∃ S : ByteArray, Hid (S = ⟨(l1 ++ [UInt8.ofNat (m : Int).toNat]).toArray⟩) := ⟨_, rfl⟩
      rw [← HS.out] at hcv
      clear hv2
      go_wp2
      rw [hcv]
      simp only [Result.andThen]
      rw [Oper.upon_value]
      go_wp2
      go_ret
      refine ⟨?_, (hF.alloc hsz _).grown hg2 (by simp; omega) (fun k hk => .inr (hB.lt k hk).1)⟩
      rw [HS.out, ← HE.out, numB_small hlt]
      rfl
    · rw [numB_big hlt, List.length_cons] at hl1
      go_wp2_with (at_builtin; (refine wpList_append_has (by rfl) (.tmp 6) (.tmp 11) 75 rfl w.heap.size 5 i0 (.int .u8 0) 1 1 Try.underlying75 hi hz0 hz1 hz2 rfl (by decide) _ l1.length _ rfl (hB.alloc _) wr.heap.size 1 [.int .u8 (128 + (m : Int) % 128)] rfl (Has.new wr 5 _) rfl (ones_one rfl) (by unfold maxLen; omega) (by omega) (by simp; omega) ?_; intro v' w2 hB2 hg2 hv2))
      rw [byteCells_snoc l1 _ (by omega) (by omega)] at hB2
      go_wp2
      go_roundw
      case rel =>
        refine ⟨m / 128, l1 ++ [UInt8.ofNat (128 + m % 128)], by go_num, by omega, ?_, ?_, (hF.alloc hsz _).grown hg2 (by simp; omega) (fun k hk => .inr (hB.lt k hk).1)⟩
        · rw [show (128 + (m : Int) % 128).toNat = 128 + m % 128 by omega] at hB2
          rw [List.length_append]
          exact hB2
        · rw [← HE.out, numB_big hlt, List.append_assoc]
          rfl
      case measure => simp [intOf]; omega
theorem rnum_at (w : World) (x : Int) (n : Nat) (hx : x = n) (hn : n < 18446744073709551616) :
    Calls Try.prog 60 #[.int .u64 x] w fun e w' => e = .returned (.string ⟨(numB n).toArray⟩) ∧ Fr w.heap.size [] w w' := by
  subst hx
  exact rNum_any w n hn
end Go.Proofs.Ytaglginhaofgeaa
