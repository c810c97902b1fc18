/- What the chapter itself tells: awake is true. -/
import Derived.Test.YtpcbkkccaahdbaaPackFrame
namespace Go.Proofs.Ytpcbkkccaahdbaa
open Go.RowKit
open Pk
theorem aw_num : [0, 127, 128, 300].flatMap numB = [0, 127, 128, 1, 172, 2] := by
  simp only [List.flatMap_cons, List.flatMap_nil]
  rw [numB_small (n := 0) (by decide), numB_small (n := 127) (by decide), numB_big (n := 128) (by decide), numB_small (n := 128 / 128) (by decide), numB_big (n := 300) (by decide), numB_small (n := 300 / 128) (by decide)]
  decide
theorem aw_int : [0, -1, 1, -64].flatMap intB = [0, 1, 2, 127] := by
  simp only [List.flatMap_cons, List.flatMap_nil, intB]
  rw [numB_small (n := zig 0) (by decide), numB_small (n := zig (-1)) (by decide), numB_small (n := zig 1) (by decide), numB_small (n := zig (-64)) (by decide)]
  decide
theorem aw_text : textB [104, 105] = [2, 104, 105] := by
  unfold textB
  rw [numB_small (n := ([104, 105] : List UInt8).length) (by decide)]
  decide
theorem aw_crc : fourB (crc [104, 105]) = [216, 147, 42, 172] := by decide +kernel
theorem aw_frame : frameB [104, 105] = [2, 104, 105, 216, 147, 42, 172] := by
  unfold frameB
  rw [aw_text, aw_crc]
  rfl
theorem call_num (b : Nat) (w : World) (g : Nat) (hg : g = w.heap.size) (h : Bld 32 b [] w) :
    Calls Try.prog 11 #[.pointer (some ⟨b, 0, none⟩), .slice (some ⟨g, 0, none⟩) 4 4] (w.alloc (.cells #[.int .u64 0, .int .u64 127, .int .u64 128, .int .u64 300] 34)) fun e w' => e = .returned (.pointer (some ⟨b, 0, none⟩)) ∧ Bld 32 b [0, 127, 128, 1, 172, 2] w' ∧ WFr b w w' := by
  subst hg
  refine (wNum_any b [] (some ⟨w.heap.size, 0, none⟩) 4 _ [0, 127, 128, 300] (h.alloc _) (row_new w b 34 _ h.lt (by decide)) (by decide) (by decide) (by rw [aw_num]; decide)).mono ?_
  rintro e w' ⟨rfl, h1, hf⟩
  rw [aw_num] at h1
  exact ⟨rfl, h1, ((WFr.refl b w).alloc (Nat.le_of_lt h.lt) _).trans hf⟩
theorem call_int (b : Nat) (w : World) (g : Nat) (l : List UInt8) (hl : l.length ≤ 1000) (hg : g = w.heap.size) (h : Bld 32 b l w) :
    Calls Try.prog 25 #[.pointer (some ⟨b, 0, none⟩), .slice (some ⟨g, 0, none⟩) 4 4] (w.alloc (.cells #[.int .i64 0, .int .i64 (-1), .int .i64 1, .int .i64 (-64)] 2)) fun e w' => e = .returned (.pointer (some ⟨b, 0, none⟩)) ∧ Bld 32 b (l ++ [0, 1, 2, 127]) w' ∧ WFr b w w' := by
  subst hg
  refine (wInt_any b l (some ⟨w.heap.size, 0, none⟩) 4 _ [0, -1, 1, -64] (h.alloc _) (row_new w b 2 _ h.lt (by decide)) (by decide) (by decide) (by rw [aw_int]; simp; omega)).mono ?_
  rintro e w' ⟨rfl, h1, hf⟩
  rw [aw_int] at h1
  exact ⟨rfl, h1, ((WFr.refl b w).alloc (Nat.le_of_lt h.lt) _).trans hf⟩
theorem call_frame (w : World) : Calls Try.prog 19 #[.string (ByteArray.mk #[104, 105])] w fun r w' => r = .returned (.tuple #[.string (ByteArray.mk #[2, 104, 105, 216, 147, 42, 172]), .int .i64 0]) ∧ Fr w.heap.size [] w w' := by
  have := frame_ok w (ByteArray.mk #[104, 105]) (by decide)
  rw [show (ByteArray.mk #[104, 105]).data.toList = [104, 105] from rfl, aw_frame] at this
  exact this
theorem call_bad (w : World) (b : Nat) (h : Rd w b (ByteArray.mk #[128, 0]) 0) : Calls Try.prog 27 #[.pointer (some ⟨b, 0, none⟩)] w fun r w' => r = .returned (.int .u64 0) ∧ Rd w' b ByteArray.empty 11 ∧ One b w w' :=
  num_ok w b [128, 0] h
set_option maxHeartbeats 1000000 in
set_option maxRecDepth 100000 in
theorem awake02_any (w : World) : Calls Try.prog 8 #[] w fun e w' => e = .returned (.bool true) ∧ Fr w.heap.size [] w w' := by
  go_enter Try.func8, Try.ntmps8
  go_wp2_with (first
    | (go_at_call 24; (refine (done_any w8 _ _ _ r8).mono ?_); rintro e w10 ⟨rfl, rfl⟩)
    | (go_at_call 15; (refine (wBytes_any w.heap.size _ w7 h7).mono ?_); rintro e w8 ⟨rfl, h8, f8⟩; have r8 : Rd w8 w5.heap.size ByteArray.empty 11 := f8.has r7 (.inr ⟨by have := f5.size; have := h4.lt; omega, by decide⟩))
    | (go_at_call 27; (refine (call_bad w6 _ h6).mono ?_); rintro e w7 ⟨rfl, r7, o7⟩; have hf47 : Fr w4.heap.size [] w4 w7 := (f5.trans (f6.mono f5.size (by simp))).one o7 (.inr f5.size); have h7 := h4.fr hf47 (Nat.le_refl _) (by simp))
    | (go_at_call 16; (refine (read_any w5 _).mono ?_); rintro e w6 ⟨rfl, h6, f6⟩)
    | (go_at_call 19; (refine (call_frame w4).mono ?_); rintro e w5 ⟨rfl, f5⟩)
    | (go_at_call 26; (refine (wFlag_one w.heap.size _ w3 true _ rfl h3 rfl (by decide)).mono ?_); rintro e w4 ⟨rfl, h4, f4⟩)
    | (go_at_call 12; (refine (wText_one w.heap.size _ w2 (ByteArray.mk #[104, 105]) _ rfl h2 (Nat.le_refl _) (by rw [show (ByteArray.mk #[104, 105]).data.toList = [104, 105] from rfl, aw_text]; decide)).mono ?_); rintro e w3 ⟨rfl, h3, f3⟩; rw [show (ByteArray.mk #[104, 105]).data.toList = [104, 105] from rfl, aw_text] at h3)
    | (go_at_call 25; (refine (call_int w.heap.size w1 _ _ (by decide) rfl h1).mono ?_); rintro e w2 ⟨rfl, h2, f2⟩)
    | (go_at_call 11; (refine (call_num w.heap.size _ _ (by simp) (Bld.new w 32)).mono ?_); rintro e w1 ⟨rfl, h1, f1⟩))
  go_ret
  have g4 := ((((((Fr.refl w.heap.size [] w).alloc (Nat.le_refl _) _).below f1.below (Nat.le_refl _)).below f2.below (Nat.le_refl _)).below f3.below (Nat.le_refl _)).below f4.below (Nat.le_refl _))
  exact ⟨rfl, (g4.trans (hf47.mono g4.size (by simp))).below f8.below (Nat.le_refl _)⟩
end Go.Proofs.Ytpcbkkccaahdbaa
