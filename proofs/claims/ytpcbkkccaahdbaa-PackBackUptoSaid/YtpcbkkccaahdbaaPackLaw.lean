/- Text; a thing laid down, taken up; the reference's bytes of a thing. -/
import Derived.Test.YtpcbkkccaahdbaaPackTake
import Derived.Test.YtpcbkkccaahdbaaPackMeth
import Derived.Test.YtpcbkkccaahdbaaPackRef
namespace Go.Proofs.Ytpcbkkccaahdbaa
open Go.RowKit
namespace Pk
theorem manyE_le (l : List UInt8) (e least : Int) : (manyE l e least).1 ≤ (manyE l e least).2.1.length ∧ (manyE l e least).2.1.length ≤ l.length := by
  have h := numE_len l e
  unfold manyE
  split
  · split
    · exact ⟨Nat.le_refl _, Nat.zero_le _⟩
    · rename_i h1
      exact ⟨Nat.le_trans (Nat.not_lt.1 h1) (Nat.div_le_self _ _), h⟩
  · exact ⟨Nat.zero_le _, h⟩
/-- A thing. -/
structure Th where
  kind : Int
  least : Int
  n : Nat
  s : ByteArray
def Th.val (t : Th) : Value := .agg #[.int .i64 t.kind, .int .i64 t.least, .int .u64 t.n, .string t.s]
/-- An int64 of these bits. -/
def sgn (n : Nat) : Int := wrap64 n
def Th.ok (t : Th) : Prop := (-9223372036854775808 ≤ t.kind ∧ t.kind ≤ 9223372036854775807) ∧ (-9223372036854775808 ≤ t.least ∧ t.least ≤ 9223372036854775807) ∧ t.n < 18446744073709551616
def thB (t : Th) : List UInt8 := if t.kind = 1 then intB (sgn t.n) else if t.kind = 2 then flagB ((t.n : Int) % 2 == 1) else if t.kind = 3 then textB t.s.data.toList else if t.kind = 4 then t.s.data.toList else numB t.n
theorem sgn_rng (n : Nat) : -9223372036854775808 ≤ sgn n ∧ sgn n ≤ 9223372036854775807 := by
  unfold sgn wrap64; omega
end Pk
open Pk
set_option maxHeartbeats 1000000 in
set_option maxRecDepth 100000 in
theorem textE_any (w : World) (b : Nat) (l : List UInt8) (e : Int) (h : RdL w b l e) (hl : l.length ≤ 4611686018427387904) :
    Calls Try.prog 43 #[.pointer (some ⟨b, 0, none⟩)] w fun r w' => r = .returned (.string (mkS (textE l e).1)) ∧ RdL w' b (textE l e).2.1 (textE l e).2.2 ∧ One b w w' := by
  have hm := manyE_any w b l e 1 h hl (by decide) (by decide)
  have hle := manyE_le l e 1
  unfold textE
  obtain ⟨q, hq⟩ : ∃ q, Hid (q = manyE l e 1) := ⟨_, rfl⟩
  rw [← hq.out] at hm hle ⊢
  obtain ⟨n, r, e2⟩ := q
  simp only at hm hle ⊢
  go_enter Try.func43, Try.ntmps43
  go_wp2_with (first
    | (go_at_call 40; (refine (rawE_any w1 b r e2 n h1 (by omega)).mono ?_); rintro e w2 ⟨rfl, h2, o2⟩)
    | (go_at_call 17; (refine hm.mono ?_); rintro e w1 ⟨rfl, h1, o1⟩))
  go_ret
  exact ⟨rfl, h2, o1.trans o2⟩
set_option maxHeartbeats 1000000 in
set_option maxRecDepth 100000 in
theorem lay_1 (w : World) (b : Nat) (l : List UInt8) (ls : Int) (n : Nat) (s : ByteArray) (h : Bld 32 b l w) (hlen : l.length + (intB (sgn n)).length + 20 ≤ 140737488355328) :
    Calls Try.prog 9 #[.pointer (some ⟨b, 0, none⟩), .agg #[.int .i64 1, .int .i64 ls, .int .u64 n, .string s]] w fun e w' => e = .returned (.tuple #[]) ∧ Bld 32 b (l ++ intB (sgn n)) w' ∧ WFr b w w' := by
  have hF := (WFr.refl b w).alloc (Nat.le_of_lt h.lt) (.cells #[.int .i64 1, .int .i64 ls, .int .u64 (n : Int), .string s] 36)
  have hB := h.alloc (.cells #[.int .i64 1, .int .i64 ls, .int .u64 (n : Int), .string s] 36)
  go_enter Try.func9, Try.ntmps9
  go_wp2_with (go_at_call 25; (refine (wInt_one b l _ (sgn n) _ (by simp) hB (sgn_rng n) (by omega)).mono ?_); rintro e w2 ⟨rfl, h2, f2⟩)
  go_end0
  exact ⟨rfl, h2, hF.trans f2⟩
set_option maxHeartbeats 1000000 in
set_option maxRecDepth 100000 in
theorem lay_2 (w : World) (b : Nat) (l : List UInt8) (ls : Int) (n : Nat) (s : ByteArray) (h : Bld 32 b l w) (hlen : l.length + (flagB ((n : Int) % 2 == 1)).length + 20 ≤ 140737488355328) :
    Calls Try.prog 9 #[.pointer (some ⟨b, 0, none⟩), .agg #[.int .i64 2, .int .i64 ls, .int .u64 n, .string s]] w fun e w' => e = .returned (.tuple #[]) ∧ Bld 32 b (l ++ flagB ((n : Int) % 2 == 1)) w' ∧ WFr b w w' := by
  have hF := (WFr.refl b w).alloc (Nat.le_of_lt h.lt) (.cells #[.int .i64 2, .int .i64 ls, .int .u64 (n : Int), .string s] 36)
  have hB := h.alloc (.cells #[.int .i64 2, .int .i64 ls, .int .u64 (n : Int), .string s] 36)
  go_enter Try.func9, Try.ntmps9
  go_wp2_with (go_at_call 26; (refine (wFlag_one b l _ _ _ (by simp) hB rfl hlen).mono ?_); rintro e w2 ⟨rfl, h2, f2⟩)
  go_end0
  exact ⟨rfl, h2, hF.trans f2⟩
set_option maxHeartbeats 1000000 in
set_option maxRecDepth 100000 in
theorem lay_3 (w : World) (b : Nat) (l : List UInt8) (ls : Int) (n : Nat) (s : ByteArray) (h : Bld 32 b l w) (hlen : l.length + (textB s.data.toList).length + 20 ≤ 140737488355328) :
    Calls Try.prog 9 #[.pointer (some ⟨b, 0, none⟩), .agg #[.int .i64 3, .int .i64 ls, .int .u64 n, .string s]] w fun e w' => e = .returned (.tuple #[]) ∧ Bld 32 b (l ++ textB s.data.toList) w' ∧ WFr b w w' := by
  have hF := (WFr.refl b w).alloc (Nat.le_of_lt h.lt) (.cells #[.int .i64 3, .int .i64 ls, .int .u64 (n : Int), .string s] 36)
  have hB := h.alloc (.cells #[.int .i64 3, .int .i64 ls, .int .u64 (n : Int), .string s] 36)
  go_enter Try.func9, Try.ntmps9
  go_wp2_with (go_at_call 12; (refine (wText_one b l _ s _ (by simp) hB (Nat.le_refl _) hlen).mono ?_); rintro e w2 ⟨rfl, h2, f2⟩)
  go_end0
  exact ⟨rfl, h2, hF.trans f2⟩
set_option maxHeartbeats 1000000 in
set_option maxRecDepth 100000 in
theorem lay_4 (w : World) (b : Nat) (l : List UInt8) (ls : Int) (n : Nat) (s : ByteArray) (h : Bld 32 b l w) (hlen : l.length + (s.data.toList).length + 20 ≤ 140737488355328) :
    Calls Try.prog 9 #[.pointer (some ⟨b, 0, none⟩), .agg #[.int .i64 4, .int .i64 ls, .int .u64 n, .string s]] w fun e w' => e = .returned (.tuple #[]) ∧ Bld 32 b (l ++ s.data.toList) w' ∧ WFr b w w' := by
  have hF := (WFr.refl b w).alloc (Nat.le_of_lt h.lt) (.cells #[.int .i64 4, .int .i64 ls, .int .u64 (n : Int), .string s] 36)
  have hB := h.alloc (.cells #[.int .i64 4, .int .i64 ls, .int .u64 (n : Int), .string s] 36)
  go_enter Try.func9, Try.ntmps9
  go_wp2_with (go_at_call 28; (refine (wRaw_one b l _ s _ (by simp) hB (Nat.le_refl _) hlen).mono ?_); rintro e w2 ⟨rfl, h2, f2⟩)
  go_end0
  exact ⟨rfl, h2, hF.trans f2⟩
set_option maxHeartbeats 1000000 in
set_option maxRecDepth 100000 in
theorem lay_5 (w : World) (b : Nat) (l : List UInt8) (k ls : Int) (n : Nat) (s : ByteArray) (h : Bld 32 b l w) (h1 : k ≠ 1) (h2 : k ≠ 2) (h3 : k ≠ 3) (h4 : k ≠ 4) (hn : n < 18446744073709551616) (hlen : l.length + (numB n).length + 20 ≤ 140737488355328) :
    Calls Try.prog 9 #[.pointer (some ⟨b, 0, none⟩), .agg #[.int .i64 k, .int .i64 ls, .int .u64 n, .string s]] w fun e w' => e = .returned (.tuple #[]) ∧ Bld 32 b (l ++ numB n) w' ∧ WFr b w w' := by
  have hF := (WFr.refl b w).alloc (Nat.le_of_lt h.lt) (.cells #[.int .i64 k, .int .i64 ls, .int .u64 (n : Int), .string s] 36)
  have hB := h.alloc (.cells #[.int .i64 k, .int .i64 ls, .int .u64 (n : Int), .string s] 36)
  have b1 := beq_eq_false_iff_ne.2 h1
  have b2 := beq_eq_false_iff_ne.2 h2
  have b3 := beq_eq_false_iff_ne.2 h3
  have b4 := beq_eq_false_iff_ne.2 h4
  go_enter Try.func9, Try.ntmps9
  go_wp2_with (go_at_call 11; (refine (wNum_one b l _ n _ (by simp) hB hn hlen).mono ?_); rintro e w2 ⟨rfl, h2, f2⟩)
  go_end0
  exact ⟨rfl, h2, hF.trans f2⟩
set_option maxHeartbeats 1000000 in
set_option maxRecDepth 100000 in
theorem rBytes_1 (w : World) (ls : Int) (n : Nat) (s : ByteArray) :
    Calls Try.prog 10 #[.agg #[.int .i64 1, .int .i64 ls, .int .u64 n, .string s]] w fun e w' => e = .returned (.string (mkS (intB (sgn n)))) ∧ Fr w.heap.size [] w w' := by
  have hF := (Fr.refl w.heap.size [] w).alloc (Nat.le_refl _) (.cells #[.int .i64 1, .int .i64 ls, .int .u64 (n : Int), .string s] 36)
  go_enter Try.func10, Try.ntmps10
  go_wp2_with (go_at_call 29; (refine (rInt_any _ (sgn n) (sgn_rng n).1 (sgn_rng n).2).mono ?_); rintro e w2 ⟨rfl, f2⟩)
  go_ret
  exact ⟨rfl, hF.trans (f2.mono (by simp) (by simp))⟩
set_option maxHeartbeats 1000000 in
set_option maxRecDepth 100000 in
theorem rBytes_2 (w : World) (ls : Int) (n : Nat) (s : ByteArray) :
    Calls Try.prog 10 #[.agg #[.int .i64 2, .int .i64 ls, .int .u64 n, .string s]] w fun e w' => e = .returned (.string (mkS (flagB ((n : Int) % 2 == 1)))) ∧ Fr w.heap.size [] w w' := by
  have hF := (Fr.refl w.heap.size [] w).alloc (Nat.le_refl _) (.cells #[.int .i64 2, .int .i64 ls, .int .u64 (n : Int), .string s] 36)
  go_enter Try.func10, Try.ntmps10
  go_wp2_with (go_at_call 30; (refine (rFlag_any _ _).mono ?_); rintro e w2 ⟨rfl, f2⟩)
  go_ret
  exact ⟨rfl, hF.trans (f2.mono (by simp) (by simp))⟩
set_option maxHeartbeats 1000000 in
set_option maxRecDepth 100000 in
theorem rBytes_3 (w : World) (ls : Int) (n : Nat) (s : ByteArray) (hs : s.size ≤ 9223372036854775000) :
    Calls Try.prog 10 #[.agg #[.int .i64 3, .int .i64 ls, .int .u64 n, .string s]] w fun e w' => e = .returned (.string (mkS (textB s.data.toList))) ∧ Fr w.heap.size [] w w' := by
  have hF := (Fr.refl w.heap.size [] w).alloc (Nat.le_refl _) (.cells #[.int .i64 3, .int .i64 ls, .int .u64 (n : Int), .string s] 36)
  go_enter Try.func10, Try.ntmps10
  go_wp2_with (go_at_call 14; (refine (rText_any _ s hs).mono ?_); rintro e w2 ⟨rfl, f2⟩)
  go_ret
  exact ⟨rfl, hF.trans (f2.mono (by simp) (by simp))⟩
set_option maxHeartbeats 1000000 in
set_option maxRecDepth 100000 in
theorem rBytes_5 (w : World) (k ls : Int) (n : Nat) (s : ByteArray) (h1 : k ≠ 1) (h2 : k ≠ 2) (h3 : k ≠ 3) (h4 : k ≠ 4) (hn : n < 18446744073709551616) :
    Calls Try.prog 10 #[.agg #[.int .i64 k, .int .i64 ls, .int .u64 n, .string s]] w fun e w' => e = .returned (.string (mkS (numB n))) ∧ Fr w.heap.size [] w w' := by
  have hF := (Fr.refl w.heap.size [] w).alloc (Nat.le_refl _) (.cells #[.int .i64 k, .int .i64 ls, .int .u64 (n : Int), .string s] 36)
  have b1 := beq_eq_false_iff_ne.2 h1
  have b2 := beq_eq_false_iff_ne.2 h2
  have b3 := beq_eq_false_iff_ne.2 h3
  have b4 := beq_eq_false_iff_ne.2 h4
  go_enter Try.func10, Try.ntmps10
  go_wp2_with (go_at_call 13; (refine (rNum_any _ n hn).mono ?_); rintro e w2 ⟨rfl, f2⟩)
  go_ret
  exact ⟨rfl, hF.trans (f2.mono (by simp) (by simp))⟩
set_option maxHeartbeats 1000000 in
set_option maxRecDepth 100000 in
theorem rBytes_4 (w : World) (ls : Int) (n : Nat) (s : ByteArray) :
    Calls Try.prog 10 #[.agg #[.int .i64 4, .int .i64 ls, .int .u64 n, .string s]] w fun e w' => e = .returned (.string (mkS s.data.toList)) ∧ Fr w.heap.size [] w w' := by
  have hF := (Fr.refl w.heap.size [] w).alloc (Nat.le_refl _) (.cells #[.int .i64 4, .int .i64 ls, .int .u64 (n : Int), .string s] 36)
  rw [mkS_of]
  go_enter Try.func10, Try.ntmps10
  go_wp2
  go_ret
  exact ⟨rfl, hF⟩
theorem five (k : Int) : k = 1 ∨ k = 2 ∨ k = 3 ∨ k = 4 ∨ (k ≠ 1 ∧ k ≠ 2 ∧ k ≠ 3 ∧ k ≠ 4) := by omega
theorem thB_5 {k ls : Int} {n : Nat} {s : ByteArray} (h1 : k ≠ 1) (h2 : k ≠ 2) (h3 : k ≠ 3) (h4 : k ≠ 4) : thB ⟨k, ls, n, s⟩ = numB n := by unfold thB; rw [if_neg h1, if_neg h2, if_neg h3, if_neg h4]
theorem thB_1 {ls : Int} {n : Nat} {s : ByteArray} : thB ⟨1, ls, n, s⟩ = intB (sgn n) := by unfold thB; exact if_pos rfl
theorem thB_2 {ls : Int} {n : Nat} {s : ByteArray} : thB ⟨2, ls, n, s⟩ = flagB ((n : Int) % 2 == 1) := by unfold thB; simp
theorem thB_3 {ls : Int} {n : Nat} {s : ByteArray} : thB ⟨3, ls, n, s⟩ = textB s.data.toList := by unfold thB; simp
theorem thB_4 {ls : Int} {n : Nat} {s : ByteArray} : thB ⟨4, ls, n, s⟩ = s.data.toList := by unfold thB; simp
theorem lay_any (w : World) (b : Nat) (l : List UInt8) (t : Th) (h : Bld 32 b l w) (hn : t.n < 18446744073709551616) (hlen : l.length + (thB t).length + 20 ≤ 140737488355328) :
    Calls Try.prog 9 #[.pointer (some ⟨b, 0, none⟩), t.val] w fun e w' => e = .returned (.tuple #[]) ∧ Bld 32 b (l ++ thB t) w' ∧ WFr b w w' := by
  obtain ⟨k, ls, n, s⟩ := t
  unfold Th.val
  rcases five k with rfl | rfl | rfl | rfl | ⟨h1, h2, h3, h4⟩
  · rw [thB_1] at hlen ⊢; exact lay_1 w b l ls n s h hlen
  · rw [thB_2] at hlen ⊢; exact lay_2 w b l ls n s h hlen
  · rw [thB_3] at hlen ⊢; exact lay_3 w b l ls n s h hlen
  · rw [thB_4] at hlen ⊢; exact lay_4 w b l ls n s h hlen
  · rw [thB_5 h1 h2 h3 h4] at hlen ⊢
    exact lay_5 w b l k ls n s h h1 h2 h3 h4 hn hlen
theorem rBytes_any (w : World) (t : Th) (hn : t.n < 18446744073709551616) (hs : t.s.size ≤ 9223372036854775000) :
    Calls Try.prog 10 #[t.val] w fun e w' => e = .returned (.string (mkS (thB t))) ∧ Fr w.heap.size [] w w' := by
  obtain ⟨k, ls, n, s⟩ := t
  unfold Th.val
  rcases five k with rfl | rfl | rfl | rfl | ⟨h1, h2, h3, h4⟩
  · rw [thB_1]; exact rBytes_1 w ls n s
  · rw [thB_2]; exact rBytes_2 w ls n s
  · rw [thB_3]; exact rBytes_3 w ls n s hs
  · rw [thB_4]; exact rBytes_4 w ls n s
  · rw [thB_5 h1 h2 h3 h4]
    exact rBytes_5 w k ls n s h1 h2 h3 h4 hn
end Go.Proofs.Ytpcbkkccaahdbaa
