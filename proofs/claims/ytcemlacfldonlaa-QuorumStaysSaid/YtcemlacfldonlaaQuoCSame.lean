/- clock.Same, cell.Same at what has nothing. -/
import Derived.Test.YtcemlacfldonlaaQuoCJoin
namespace Go.Proofs.Ytcemlacfldonlaa
open Go.RowKit
open Ck
set_option linter.unusedSimpArgs false
section
variable (w : World)
set_option maxHeartbeats 10000000
set_option maxRecDepth 100000
theorem dIdx_nil (A : Option Addr) (c : Nat) (v : Value) : Calls Try.prog 66 #[.slice A 0 c, v] w fun e w' => e = .returned (.int .i64 (-1)) ∧ w = w' := by
  go_enter Try.func66, Try.ntmps66
  go_wp2
  go_loopw [8] (fun i wr => i = .int .i64 0 ∧ w = wr) (fun _ _ => 0)
  case atStart => exact ⟨rfl, rfl⟩
  case round =>
    obtain ⟨rfl, rfl⟩ := hrel
    go_wp2
    go_ret
    exact ⟨rfl, rfl⟩
theorem dHas_nil (A : Option Addr) (c : Nat) (v : Value) : Calls Try.prog 42 #[.slice A 0 c, v] w fun e w' => e = .returned (.bool false) ∧ w = w' := by
  have hi := dIdx_nil w A c v
  go_enter Try.func42, Try.ntmps42
  go_wp2_with (go_at_call 66; (refine hi.mono ?_); rintro e w2 ⟨rfl, rfl⟩)
  go_ret
  exact ⟨rfl, rfl⟩
theorem within_nil (A B : Option Addr) (c d : Nat) : Calls Try.prog 41 #[.slice A 0 c, .slice B 0 d] w fun e w' => e = .returned (.bool true) ∧ Fr w.heap.size [] w w' := by
  have hi := fun W v => dHas_nil W A c v
  have f1 := (Fr.refl w.heap.size [] w).alloc (Nat.le_refl _) (.cells #[.slice B 0 d] 31)
  go_enter Try.func41, Try.ntmps41
  go_wp2_with (go_at_call 42; (refine (hi _ _).mono ?_); rintro e w2 ⟨rfl, rfl⟩)
  go_ret
  exact ⟨rfl, f1⟩
theorem compare_nil (A B : Option Addr) (c d : Nat) : Calls Try.prog 31 #[.slice A 0 c, .slice B 0 d] w fun e w' => e = .returned (.int .i64 0) ∧ Fr w.heap.size [] w w' := by
  go_enter Try.func31, Try.ntmps31
  go_wp2_with (first
    | (go_at_call 41; (with_reducible refine (within_nil w4 _ _ _ _).mono ?_); rintro e w5 ⟨rfl, f5⟩)
    | (go_at_call 41; (with_reducible refine (within_nil w3 _ _ _ _).mono ?_); rintro e w4 ⟨rfl, f4⟩)
    | (go_at_call 34; (with_reducible refine (ckNorm_nil w2 _ _).mono ?_); rintro e w3 ⟨⟨A3, c3, rfl⟩, f3⟩)
    | (go_at_call 34; (with_reducible refine (ckNorm_nil w _ _).mono ?_); rintro e w2 ⟨⟨A2, c2, rfl⟩, f2⟩))
  go_ret
  have g3 := f2.trans (f3.mono f2.size (by simp))
  have g4 := g3.trans (f4.mono g3.size (by simp))
  exact ⟨rfl, g4.trans (f5.mono g4.size (by simp))⟩
theorem ckSame_nil (A B : Option Addr) (c d : Nat) : Calls Try.prog 25 #[.slice A 0 c, .slice B 0 d] w fun e w' => e = .returned (.bool true) ∧ Fr w.heap.size [] w w' := by
  have hc := compare_nil w A B c d
  go_enter Try.func25, Try.ntmps25
  go_wp2_with (go_at_call 31; (refine hc.mono ?_); rintro e w2 ⟨rfl, f2⟩)
  go_ret
  exact ⟨rfl, f2⟩
theorem cSame_nil (k : Int) (A B : Option Addr) (c d : Nat) : Calls Try.prog 20 #[.agg #[.int .i64 k, .slice A 0 c, .slice none 0 0, .slice none 0 0], .agg #[.int .i64 k, .slice B 0 d, .slice none 0 0, .slice none 0 0]] w fun e w' => e = .returned (.bool true) ∧ Fr w.heap.size [] w w' := by
  have V1 := (Has.new w 37 [.int .i64 k, .slice A 0 c, .slice none 0 0, .slice none 0 0]).alloc (.cells #[.int .i64 k, .slice B 0 d, .slice none 0 0, .slice none 0 0] 37)
  have V2 : Has ((w.alloc (.cells #[.int .i64 k, .slice A 0 c, .slice none 0 0, .slice none 0 0] 37)).alloc (.cells #[.int .i64 k, .slice B 0 d, .slice none 0 0, .slice none 0 0] 37)) (w.heap.size + 1) 37 [.int .i64 k, .slice B 0 d, .slice none 0 0, .slice none 0 0] := Has.new' (w.alloc (.cells #[.int .i64 k, .slice A 0 c, .slice none 0 0, .slice none 0 0] 37)) 37 [.int .i64 k, .slice B 0 d, .slice none 0 0, .slice none 0 0] (by simp)
  have f1 := ((Fr.refl w.heap.size [] w).alloc (Nat.le_refl _) (.cells #[.int .i64 k, .slice A 0 c, .slice none 0 0, .slice none 0 0] 37)).alloc (by simp) (.cells #[.int .i64 k, .slice B 0 d, .slice none 0 0, .slice none 0 0] 37)
  have x0 := V1.cell 0
  have x1 := V1.cell 1
  have x2 := V1.cell 2
  have x3 := V1.cell 3
  have y0 := V2.cell 0
  have y1 := V2.cell 1
  have y2 := V2.cell 2
  have y3 := V2.cell 3
  go_enter Try.func20, Try.ntmps20
  go_wp2_with (first
    | (go_at_call 26; (with_reducible refine (Same_nil w2).mono ?_); rintro e w3 ⟨rfl, f3⟩)
    | (go_at_call 25; (with_reducible refine (ckSame_nil _ _ _ _ _).mono ?_); rintro e w2 ⟨rfl, f2⟩; have V1 := V1.fr f2 V1.lt List.not_mem_nil; have V2 := V2.fr f2 V2.lt List.not_mem_nil; have g2 := V1.cell 2; have g3 := V1.cell 3; have h2 := V2.cell 2; have h3 := V2.cell 3))
  go_ret
  have g3 := f1.trans (f2.mono f1.size (by simp))
  exact ⟨rfl, g3.trans (f3.mono g3.size (by simp))⟩
theorem cellNew_any (k : Int) : Calls Try.prog 13 #[.int .i64 k] w fun e w' => e = .returned (.agg #[.int .i64 k, .slice none 0 0, .slice none 0 0, .slice none 0 0]) ∧ Fr w.heap.size [] w w' := by
  go_enter Try.func13, Try.ntmps13
  go_wp2
  have V9 := Has.new w 37 [.int .i64 k, .slice none 0 0, .slice none 0 0, .slice none 0 0]
  have q0 := V9.cell 0
  have q1 := V9.cell 1
  have q2 := V9.cell 2
  have q3 := V9.cell 3
  refine bodyPost_ret (v := .agg #[.int .i64 k, .slice none 0 0, .slice none 0 0, .slice none 0 0]) (by simp [results, Try.results13, go_sem, q0, q1, q2, q3]) rfl ⟨rfl, (Fr.refl w.heap.size [] w).alloc (Nat.le_refl _) _⟩
end
end Go.Proofs.Ytcemlacfldonlaa
