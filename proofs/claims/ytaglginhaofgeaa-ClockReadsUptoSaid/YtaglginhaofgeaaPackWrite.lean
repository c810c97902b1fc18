/- The writer's own: num, int, flag, raw, text, Bytes. -/
import Derived.Test.YtaglginhaofgeaaPackBuild
import Derived.Test.YtaglginhaofgeaaPackSpec
import Derived.Test.YtaglginhaofgeaaBits
-- cut
namespace Go.Proofs.Ytaglginhaofgeaa
open Go.RowKit
open Pk
theorem zig_bits (n : Int) (h0 : -9223372036854775808 ≤ n) (h1 : n ≤ 9223372036854775807) :
    bits .xor .u64 (IntKind.u64.wrap (IntKind.u64.wrap n * 2)) (IntKind.u64.wrap (n / 9223372036854775808)) = (zig n : Int) := by
  simp only [IntKind.wrap_u64]
  rw [u64_xor _ _ (by omega) (by omega) (by omega) (by omega)]
  unfold zig
  by_cases hn : 0 ≤ n
  · rw [if_pos hn, show (n / 9223372036854775808 % 18446744073709551616).toNat = 0 by omega, Nat.xor_zero]
    omega
  · rw [if_neg hn, show (n / 9223372036854775808 % 18446744073709551616).toNat = 18446744073709551615 by omega, xor_ones _ (by omega)]
    omega
theorem btW : BT 84 := ⟨by decide, by kernel_rfl⟩
theorem btB : BT 82 := ⟨by decide, by kernel_rfl⟩
set_option maxHeartbeats 1000000 in
set_option maxRecDepth 100000 in
theorem bstr_any {T : TypeId} (hT : BT T) (b : Nat) (l : List UInt8) (w : World) (h : Bld T b l w) :
    Calls Try.prog 58 #[.pointer (some ⟨b, 0, none⟩)] w fun e w' => e = .returned (.string ⟨l.toArray⟩) ∧ Bld T b l w' ∧ WFr b w w' := by
  obtain ⟨p, v, hp, hbk, hown, h0⟩ := h
  have hlt := Bld.lt ⟨p, v, hp, hbk, hown, h0⟩
  have hne := Lib.ownBlock_neF hown hbk hT.ne5
  by_cases hl0 : l = []
  · obtain rfl := h0 hl0
    subst hl0
    have c1 : w.drew.cell? ⟨b, 1, none⟩ = some (.slice none 0 0) := by
      have : w.drew.heap[b]? = some (.cells #[p, .slice none 0 0] T (0, 0)) := hbk
      rw [Lib.cell_of_heap this]; rfl
    have hSD : (Builtin.unsafeSliceData_ #[75] 103 #[.slice none 0 0]).run Try.prog w.drew = .ok (.pointer none) w.drew := rfl
    have hUS : (Builtin.unsafeString_ #[103, 3] 9 #[.pointer none, .int .i64 0]).run Try.prog w.drew = .ok (.string .empty) w.drew := Lib.run_unsafeString_none w.drew _ _ _ none
    go_enter Try.func58, Try.ntmps58
    go_wp2
    go_region
    all_goals (go_wp2; go_ret; exact ⟨rfl, ⟨p, _, hp, hbk, hown, fun _ => rfl⟩, (WFr.refl _ _).drew⟩)
  · have hl1 : l.length ≠ 0 := by simpa using hl0
    obtain ⟨g, cap, cur, fz, rfl, hbg, hg, hfz, hnc, hcm, hcs, htake⟩ : ∃ g cap cur fz, v = .slice (some ⟨g, 0, none⟩) l.length cap ∧ b ≤ g ∧ w.heap[g]? = some (.cells cur 5 fz) ∧ fz.2 ≤ l.length * 1 ∧ l.length ≤ cap ∧ cap ≤ maxLen ∧ cur.size = cap * 1 ∧ cur.toList.take (l.length * 1) = Lib.byteCells l := by
      rcases hown.2 with ⟨_, hz⟩ | ⟨g, cap, cur, fz, hv, r⟩
      · exact absurd hz hl1
      · exact ⟨g, cap, cur, fz, hv, r⟩
    have c1 : w.drew.cell? ⟨b, 1, none⟩ = some (.slice (some ⟨g, 0, none⟩) l.length cap) := by
      have : w.drew.heap[b]? = some (.cells #[p, .slice (some ⟨g, 0, none⟩) l.length cap] T (0, 0)) := hbk
      rw [Lib.cell_of_heap this]; rfl
    have hSD : (Builtin.unsafeSliceData_ #[75] 103 #[.slice (some ⟨g, 0, none⟩) l.length cap]).run Try.prog w.drew = .ok (.pointer (some ⟨g, 0, none⟩)) w.drew :=
      Lib.run_unsafeSliceData_row _ _ _ _ _ _ (by omega)
    have hUS : (Builtin.unsafeString_ #[103, 3] 9 #[.pointer (some ⟨g, 0, none⟩), .int .i64 l.length]).run Try.prog w.drew = .ok (.string ⟨l.toArray⟩) (w.drew.freeze ⟨g, 0, none⟩ l.length) := by
      refine Lib.run_unsafeString_row w.drew 103 3 9 5 Try.underlying103 cellsByte g cur.size (by have hg' : w.drew.heap[g]? = some (.cells cur 5 fz) := hg; simp [World.shape?, hg']) l hl0 (by omega) (by unfold maxLen at hcm; omega) ?_
      intro j x hx
      have := hown.cells (g := g) rfl j (.int .u8 x.toNat) (by simp [Lib.byteCells, hx])
      exact this
    have hA : Lib.BuilderAtF T 5 b b p (Lib.byteCells l) w.drew := ⟨Nat.le_refl _, _, hbk, by rw [Lib.byteCells_length]; exact hown, hne⟩
    have hF := hA.froze (g := g) (cap := cap) (by rw [Lib.byteCells_length]; exact c1)
    rw [Lib.byteCells_length] at hF
    have HF := Lib.hid hF
    clear hF hA
    go_enter Try.func58, Try.ntmps58
    go_wp2
    go_region
    all_goals
      go_wp2
      go_ret
      obtain ⟨_, v', hb', ho', _⟩ := HF.out
      exact ⟨rfl, ⟨p, v', hp, hb', by rw [Lib.byteCells_length] at ho'; exact ho', fun h => absurd h hl0⟩, ⟨Lib.below_freeze (Below.drew (Below.refl b w)) (p := ⟨g, 0, none⟩) hbg _, ((Lib.OthersKept.refl _ _ w).drew).freeze ⟨g, 0, none⟩ _ ⟨cur, fz, hg⟩⟩⟩
set_option maxHeartbeats 1000000 in
set_option maxRecDepth 100000 in
theorem wnum_any (b : Nat) (l : List UInt8) (n : Nat) (w : World) (h : Bld 84 b l w) (hn : n < 18446744073709551616) (hlen : l.length + 10 ≤ 140737488355328) :
    Calls Try.prog 72 #[.pointer (some ⟨b, 0, none⟩), .int .u64 n] w fun e w' => e = .returned (.tuple #[]) ∧ Bld 84 b (l ++ numB n) w' ∧ WFr b w w' := by
  have hl10 := numB_len10 hn
  go_enter Try.func72, Try.ntmps72
  go_wp2
  go_loopw [1] (fun v wr => ∃ (m : Nat) (l1 : List UInt8), v = .int .u64 (m : Int) ∧ m < 18446744073709551616 ∧ Bld 84 b l1 wr ∧ l1 ++ numB m = l ++ numB n ∧ WFr b w wr) (fun v _ => (intOf v).toNat)
  case atStart => exact ⟨n, l, rfl, hn, h, rfl, WFr.refl _ _⟩
  case round =>
    obtain ⟨m, l1, rfl, hm, hB, heq, hF⟩ := hrel
    have HE := Lib.hid heq
    have hl1 : l1.length + (numB m).length ≤ 140737488355328 := by
      rw [← List.length_append, heq, List.length_append]; omega
    clear heq h
    by_cases hlt : m < 128
    · rw [numB_small hlt] at hl1
      go_wp2_with (go_at_call 57; refine (wbyte_any btW b l1 _ _ hB (by simpa using hl1) (by omega) (by omega)).mono ?_; rintro e w1 ⟨rfl, h1, hf1⟩)
      go_end0
      refine ⟨rfl, ?_, hF.trans hf1⟩
      rw [← HE.out, numB_small hlt]
      simpa using h1
    · rw [numB_big hlt, List.length_cons] at hl1
      have hm0 := u8_or128m m
      go_wp2_with (go_at_call 57; refine (wbyte_any btW b l1 _ _ hB (by omega) (by omega) (by omega)).mono ?_; rintro e w1 ⟨rfl, h1, hf1⟩)
      go_roundw
      case rel =>
        refine ⟨m / 128, l1 ++ [UInt8.ofNat (128 + m % 128)], by go_num, by omega, by rw [show (128 + (m : Int) % 128).toNat = 128 + m % 128 by omega] at h1; exact h1, ?_, hF.trans hf1⟩
        rw [← HE.out, numB_big hlt, List.append_assoc]
        rfl
      case measure => simp [intOf]; omega
end Go.Proofs.Ytaglginhaofgeaa
