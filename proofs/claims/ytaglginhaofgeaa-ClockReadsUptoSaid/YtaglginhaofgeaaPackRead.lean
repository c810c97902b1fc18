/- The reader. -/
import Derived.Test.YtaglginhaofgeaaPackSpec
import Derived.Test.YtaglginhaofgeaaBase
import Derived.Test.YtaglginhaofgeaaBits
import Derived.Test.YtaglginhaofgeaaProg
import Derived.Lib.Hide
import Derived.Lib.Strings
import Derived.Outline
-- cut
namespace Go.Proofs.Ytaglginhaofgeaa
open Go.RowKit
open Pk
/-- The reader in block b: what is left, and the error. -/
def Rd (w : World) (b : Nat) (S : ByteArray) (e : Int) : Prop := Has w b 98 [.string S, .int .i64 e]
theorem Rd.cells {w : World} {b : Nat} {S : ByteArray} {e : Int} (h : Rd w b S e) : w.cell? ⟨b, 0, none⟩ = some (.string S) ∧ w.cell? ⟨b, 1, none⟩ = some (.int .i64 e) ∧ w.frozen? ⟨b, 0, none⟩ = false ∧ w.frozen? ⟨b, 1, none⟩ = false :=
  ⟨h.cell 0, h.cell 1, h.frozen 0, h.frozen 1⟩
set_option maxHeartbeats 1000000 in
theorem good_any (w : World) (b : Nat) (S : ByteArray) (e : Int) (h : Rd w b S e) :
    Calls Try.prog 66 #[.pointer (some ⟨b, 0, none⟩)] w fun r w' => r = .returned (.bool (e == 0)) ∧ w = w' := by
  obtain ⟨c0, c1, z0, z1⟩ := h.cells
  go_enter Try.func66, Try.ntmps66
  go_wp2
  go_ret
  exact ⟨rfl, rfl⟩
theorem good_yes (w : World) (b : Nat) (S : ByteArray) (h : Rd w b S 0) :
    Calls Try.prog 66 #[.pointer (some ⟨b, 0, none⟩)] w fun r w' => r = .returned (.bool true) ∧ w = w' := good_any w b S 0 h
theorem good_no (w : World) (b : Nat) (S : ByteArray) (e : Int) (h : Rd w b S e) (he : e ≠ 0) :
    Calls Try.prog 66 #[.pointer (some ⟨b, 0, none⟩)] w fun r w' => r = .returned (.bool false) ∧ w = w' := by
  refine (good_any w b S e h).mono fun r w' ⟨h1, h2⟩ => ⟨?_, h2⟩
  rw [h1, beq_eq_false_iff_ne.2 he]
set_option maxHeartbeats 1000000 in
theorem read_any (w : World) (S : ByteArray) :
    Calls Try.prog 46 #[.string S] w fun r w' => r = .returned (.pointer (some ⟨w.heap.size, 0, none⟩)) ∧ Rd w' w.heap.size S 0 ∧ Fr w.heap.size [] w w' := by
  go_enter Try.func46, Try.ntmps46
  go_wp2
  go_ret
  exact ⟨rfl, Has.new _ _ _, (Fr.refl _ _ _).alloc (Nat.le_refl _) _⟩
def doneR (S : ByteArray) (e : Int) : Int := if e = 0 then (if S.size = 0 then 0 else 11) else e
theorem empty_of_size {S : ByteArray} (h : S.size = 0) : S = ByteArray.empty := by
  apply ByteArray.ext
  exact Array.eq_empty_of_size_eq_zero h
theorem nonempty_bool {S : ByteArray} (h : S.size ≠ 0) : S.toList.isEmpty = false := by
  have hd : S.data.toList ≠ [] := fun e => h (by have := congrArg List.length e; simpa using this)
  rw [Lib.toList_data]
  cases hl : S.data.toList with
  | nil => exact absurd hl hd
  | cons a l => rfl
set_option maxHeartbeats 1000000 in
theorem done_any (w : World) (b : Nat) (S : ByteArray) (e : Int) (h : Rd w b S e) :
    Calls Try.prog 50 #[.pointer (some ⟨b, 0, none⟩)] w fun r w' => r = .returned (.int .i64 (doneR S e)) ∧ w = w' := by
  by_cases he : e = 0
  · subst he
    by_cases hs : S.size = 0
    · obtain ⟨c0, c1, z0, z1⟩ := h.cells
      obtain rfl := empty_of_size hs
      go_enter Try.func50, Try.ntmps50
      go_wp2
      go_ret
      exact ⟨rfl, rfl⟩
    · obtain ⟨c0, c1, z0, z1⟩ := h.cells
      have hb := nonempty_bool hs
      go_enter Try.func50, Try.ntmps50
      go_wp2
      go_ret
      exact ⟨by unfold doneR; rw [if_pos rfl, if_neg hs]; rfl, rfl⟩
  · obtain ⟨c0, c1, z0, z1⟩ := h.cells
    have hb : (e == 0) = false := beq_eq_false_iff_ne.2 he
    go_enter Try.func50, Try.ntmps50
    go_wp2
    go_ret
    exact ⟨by unfold doneR; rw [if_neg he]; rfl, rfl⟩
set_option maxHeartbeats 1000000 in
theorem fail_yes (w : World) (b : Nat) (S : ByteArray) (x : Int) (h : Rd w b S 0) (hx : x ≠ 0) :
    Calls Try.prog 49 #[.pointer (some ⟨b, 0, none⟩), .int .i64 x] w fun r w' => r = .returned (.tuple #[]) ∧ Rd w' b ByteArray.empty x ∧ One b w w' := by
  obtain ⟨c0, c1, z0, z1⟩ := h.cells
  have hb : (x != 0) = true := bne_iff_ne.2 hx
  go_enter Try.func49, Try.ntmps49
  go_wp2_with (go_at_call 66; (refine (good_yes w b S h).mono ?_); rintro e w1 ⟨rfl, rfl⟩)
  go_end0
  exact ⟨rfl, (h.set 1 (.int .i64 x)).set 0 (.string ByteArray.empty), ((One.refl b w).setCell 1 _).setCell 0 _⟩
set_option maxHeartbeats 1000000 in
theorem fail_no (w : World) (b : Nat) (S : ByteArray) (e x : Int) (h : Rd w b S e) (he : e ≠ 0) :
    Calls Try.prog 49 #[.pointer (some ⟨b, 0, none⟩), .int .i64 x] w fun r w' => r = .returned (.tuple #[]) ∧ w = w' := by
  go_enter Try.func49, Try.ntmps49
  go_wp2_with (go_at_call 66; (refine (good_no w b S e h he).mono ?_); rintro e w1 ⟨rfl, rfl⟩)
  go_end0
  exact ⟨rfl, rfl⟩
set_option maxHeartbeats 1000000 in
theorem raw_ok (w : World) (b : Nat) (S : ByteArray) (n : Nat) (h : Rd w b S 0) (hn : n ≤ S.size) :
    Calls Try.prog 67 #[.pointer (some ⟨b, 0, none⟩), .int .i64 n] w fun r w' => r = .returned (.string (S.extract 0 n)) ∧ Rd w' b (S.extract n S.size) 0 ∧ One b w w' := by
  obtain ⟨c0, c1, z0, z1⟩ := h.cells
  have h1 : ¬ ((S.size : Int) < (n : Int)) := by omega
  go_enter Try.func67, Try.ntmps67
  go_wp2_with (go_at_call 66; (refine (good_yes w b S h).mono ?_); rintro e w1 ⟨rfl, rfl⟩)
  go_ret
  exact ⟨rfl, h.set 0 (.string (S.extract n S.size)), (One.refl b w).setCell 0 _⟩
set_option maxHeartbeats 1000000 in
theorem raw_short (w : World) (b : Nat) (S : ByteArray) (n : Nat) (h : Rd w b S 0) (hn : S.size < n) (hs : n ≤ 9223372036854775807) :
    Calls Try.prog 67 #[.pointer (some ⟨b, 0, none⟩), .int .i64 n] w fun r w' => r = .returned (.string ByteArray.empty) ∧ Rd w' b ByteArray.empty 10 ∧ One b w w' := by
  obtain ⟨c0, c1, z0, z1⟩ := h.cells
  have h1 : ((S.size : Int) < (n : Int)) := by omega
  go_enter Try.func67, Try.ntmps67
  go_wp2_with (first
    | (go_at_call 66; (refine (good_no w2 b ByteArray.empty 10 h2 (by decide)).mono ?_); rintro e w3 ⟨rfl, rfl⟩)
    | (go_at_call 49; (refine (fail_yes w b S 10 h (by decide)).mono ?_); rintro e w2 ⟨rfl, h2, o2⟩)
    | (go_at_call 66; (refine (good_yes w b S h).mono ?_); rintro e w1 ⟨rfl, rfl⟩))
  go_ret
  exact ⟨rfl, h2, o2⟩
set_option maxHeartbeats 1000000 in
theorem raw_bad (w : World) (b : Nat) (S : ByteArray) (n : Nat) (e : Int) (h : Rd w b S e) (he : e ≠ 0) :
    Calls Try.prog 67 #[.pointer (some ⟨b, 0, none⟩), .int .i64 n] w fun r w' => r = .returned (.string ByteArray.empty) ∧ w = w' := by
  obtain ⟨c0, c1, z0, z1⟩ := h.cells
  go_enter Try.func67, Try.ntmps67
  go_wp2_with (go_at_call 66; (refine (good_no w b S e h he).mono ?_); rintro e w1 ⟨rfl, rfl⟩)
  go_ret
  exact ⟨rfl, rfl⟩
end Go.Proofs.Ytaglginhaofgeaa
