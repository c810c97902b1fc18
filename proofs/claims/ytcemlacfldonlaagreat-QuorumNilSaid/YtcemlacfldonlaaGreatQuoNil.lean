/- QuorumNil: the walk. -/
import Derived.Test.YtcemlacfldonlaaGreatQuoAwake
namespace Go.Proofs.YtcemlacfldonlaaGreat
open Go.RowKit
open Ck
set_option linter.unusedSimpArgs false
section
variable (w : World)
set_option maxHeartbeats 4000000
set_option maxRecDepth 100000
theorem qCell_nil : Calls Tryz.prog 19 #[.pointer none] w fun e w' => e = .returned (.tuple #[.agg #[.int .i64 0, .slice none 0 0, .slice none 0 0, .slice none 0 0], .bool false]) ∧ Fr w.heap.size [] w w' := by
  go_enter Tryz.func19, Tryz.ntmps19
  go_wp2
  have V1 := (Has.new w 38 [.int .i64 0, .slice none 0 0, .slice none 0 0, .slice none 0 0]).alloc (.cells #[.int .i64 0, .slice none 0 0, .slice none 0 0, .slice none 0 0] 38)
  have q0 := V1.cell 0
  have q1 := V1.cell 1
  have q2 := V1.cell 2
  have q3 := V1.cell 3
  refine bodyPost_ret (v := .tuple #[.agg #[.int .i64 0, .slice none 0 0, .slice none 0 0, .slice none 0 0], .bool false]) (by simp [results, Tryz.results19, go_sem, q0, q1, q2, q3]) rfl ⟨rfl, ((Fr.refl w.heap.size [] w).alloc (Nat.le_refl _) _).alloc (by simp) _⟩
theorem qRep_nil : Calls Tryz.prog 22 #[.pointer none] w fun e w' => e = .returned (.slice none 0 0) ∧ Fr w.heap.size [] w w' := by
  have h := qCell_nil w
  go_enter Tryz.func22, Tryz.ntmps22
  go_wp2_with (go_at_call 19; (with_reducible refine h.mono ?_); rintro e w2 ⟨rfl, f2⟩)
  go_ret
  exact ⟨rfl, f2.alloc f2.size _⟩
theorem qCounts_nil : Calls Tryz.prog 14 #[.pointer none] w fun e w' => e = .returned (.tuple #[.int .i64 0, .int .i64 0, .int .i64 0]) ∧ w = w' := by
  go_enter Tryz.func14, Tryz.ntmps14
  go_wp2
  refine bodyPost_ret (v := .tuple #[.int .i64 0, .int .i64 0, .int .i64 0]) (by simp [results, Tryz.results14, go_sem]) rfl ⟨rfl, rfl⟩
theorem qOpen_nil : Calls Tryz.prog 17 #[.pointer none] w fun e w' => e = .returned (.slice none 0 0) ∧ w = w' := by
  go_enter Tryz.func17, Tryz.ntmps17
  go_wp2
  go_ret
  exact ⟨rfl, rfl⟩
theorem yes_nil (n : Int) : Calls Tryz.prog 26 #[.pointer none, .slice (some ⟨w.heap.size, 0, none⟩) 1 1] (w.alloc (.cells #[.int .i64 n] 3)) fun e w' => e = .returned (.bool false) ∧ Fr w.heap.size [] w w' := by
  have hs := say_nil (w.alloc (.cells #[.int .i64 n] 3)) 1 n w.heap.size 0 1 ((Has.new w 3 [.int .i64 n]).cell 0)
  go_enter Tryz.func26, Tryz.ntmps26
  go_wp2_with (go_at_call 30; (with_reducible refine hs.mono ?_); rintro e w2 ⟨rfl, rfl⟩)
  go_ret
  exact ⟨rfl, (Fr.refl w.heap.size [] w).alloc (Nat.le_refl _) _⟩
theorem no_nil (n : Int) : Calls Tryz.prog 11 #[.pointer none, .slice (some ⟨w.heap.size, 0, none⟩) 1 1] (w.alloc (.cells #[.int .i64 n] 3)) fun e w' => e = .returned (.bool false) ∧ Fr w.heap.size [] w w' := by
  have hs := say_nil (w.alloc (.cells #[.int .i64 n] 3)) 2 n w.heap.size 0 1 ((Has.new w 3 [.int .i64 n]).cell 0)
  go_enter Tryz.func11, Tryz.ntmps11
  go_wp2_with (go_at_call 30; (with_reducible refine hs.mono ?_); rintro e w2 ⟨rfl, rfl⟩)
  go_ret
  exact ⟨rfl, (Fr.refl w.heap.size [] w).alloc (Nat.le_refl _) _⟩
theorem nil_law (n : Int) : Calls Tryz.prog 4 #[.int .i64 n] w fun e w' => e = .returned (.bool true) ∧ Fr w.heap.size [] w w' := by
  have T0 : TyIs (w.alloc (.cells #[.slice none 0 0, .int .i64 0, .int .i64 0] 47)) w.heap.size 47 [w.heap.size] 0 0 [] :=
    ⟨⟨none, 0, Has.new w _ [.slice none 0 0, .int .i64 0, .int .i64 0], ⟨rfl, .inl ⟨rfl, rfl⟩⟩, fun _ _ h => by cases h⟩, by simp, by simp⟩
  have f0 := (Fr.refl w.heap.size [] w).alloc (Nat.le_refl _) (.cells #[.slice none 0 0, .int .i64 0, .int .i64 0] 47)
  go_enter Tryz.func4, Tryz.ntmps4
  go_upto_region 4 with fail
  obtain ⟨w1, hw1⟩ : ∃ w1, w1 = w.alloc (.cells #[.slice none 0 0, .int .i64 0, .int .i64 0] 47) := ⟨_, rfl⟩
  rw [← hw1] at T0 f0 ⊢
  clear hw1
  go_upto_region 5 with (go_at_call 19; (with_reducible refine (qCell_nil w1).mono ?_); rintro e w2 ⟨rfl, f2⟩)
  have E2 := f0.into f0.size f2 (by simp)
  have E3 := E2.alloc E2.size (.cells #[.int .i64 0, .slice none 0 0, .slice none 0 0, .slice none 0 0] 38)
  have T3 := (T0.fr0 f2).fr0 ((Fr.refl w2.heap.size [] w2).alloc (Nat.le_refl _) (.cells #[.int .i64 0, .slice none 0 0, .slice none 0 0, .slice none 0 0] 38))
  obtain ⟨w3, hw3⟩ : ∃ w3, w3 = w2.alloc (.cells #[.int .i64 0, .slice none 0 0, .slice none 0 0, .slice none 0 0] 38) := ⟨_, rfl⟩
  rw [← hw3] at T3 E3 ⊢
  clear hw3 f2 E2 T0 f0
  go_upto_region 6 with (go_at_call 14; (with_reducible refine (qCounts_nil w3).mono ?_); rintro e w3' ⟨rfl, rfl⟩)
  go_wp2_with (first
    | (go_at_call 26; (with_reducible refine (yesC T8 (by decide) (by decide) n (b := false) (L' := []) rfl rfl).mono ?_); rintro e w9 ⟨rfl, T9, f9⟩)
    | (go_at_call 24; (with_reducible refine (verdC T7 (by decide) (v := 1) (by decide)).mono ?_); rintro e w8 ⟨rfl, f8⟩; have T8 := T7.fr0 f8)
    | (go_at_call 9; (with_reducible refine (none_nil _ _).mono ?_); rintro e w7' ⟨rfl, rfl⟩)
    | (go_at_call 22; (with_reducible refine (qRep_nil w6).mono ?_); rintro e w7 ⟨rfl, f7⟩; have T7 := T6.fr0 f7)
    | (go_at_call 17; (with_reducible refine (qOpen_nil _).mono ?_); rintro e w6' ⟨rfl, rfl⟩)
    | (go_at_call 11; (with_reducible refine (no_nil w5 n).mono ?_); rintro e w6 ⟨rfl, f6⟩; have T6 := T5.fr0 f6)
    | (go_at_call 26; (with_reducible refine (yes_nil w4 n).mono ?_); rintro e w5 ⟨rfl, f5⟩; have T5 := T4.fr0 f5)
    | (go_at_call 24; (with_reducible refine (verd_nil _).mono ?_); rintro e w4' ⟨rfl, rfl⟩)
    | (go_at_call 5; (with_reducible refine (awake_any w3).mono ?_); rintro e w4 ⟨rfl, f4⟩; have T4 := T3.fr0 f4))
  go_ret
  have E4 := E3.into E3.size f4 (by simp)
  have E5 := E4.into E4.size f5 (by simp)
  have E6 := E5.into E5.size f6 (by simp)
  have E7 := E6.into E6.size f7 (by simp)
  have E8 := E7.into E7.size f8 (by simp)
  exact ⟨rfl, E8.into E8.size f9 (by simp)⟩
end
end Go.Proofs.YtcemlacfldonlaaGreat
