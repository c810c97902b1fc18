/- The library's functions on slices that have nothing. -/
import Derived.Test.YtcemlacfldonlaaQuoRead
import Derived.Lib.SliceRun
namespace Go.Proofs.Ytcemlacfldonlaa
open Go.RowKit
section
variable (w : World)
set_option maxHeartbeats 1000000
set_option maxRecDepth 100000
theorem eClone_nil : Calls Try.prog 56 #[.slice none 0 0] w fun e w' => e = .returned (.slice none 0 0) ∧ w = w' := by
  have q26 : ∀ (w : World) (a : Option Addr) (n c n' c' : Nat), (binOp .eql 32 (.slice a n c) (.slice none n' c')).run Try.prog w = .ok (.bool a.isNone) w := fun w a n c n' c' => Lib.run_eql_slice_nil w _ _ a n c n' c' Try.underlying32
  go_enter Try.func56, Try.ntmps56
  go_wp2
  go_ret
  exact ⟨rfl, rfl⟩
theorem eIns_nil (v : Value) : Calls Try.prog 97 #[.slice none 0 0, .int .i64 0, .int .i64 0, v] w fun e w' => e = .returned (.tuple #[]) ∧ w = w' := by
  go_enter Try.func97, Try.ntmps97
  go_wp2
  go_loopw [8] (fun i wr => i = .int .i64 1 ∧ w = wr) (fun _ _ => 0)
  case atStart => exact ⟨rfl, rfl⟩
  case round =>
    obtain ⟨rfl, rfl⟩ := hrel
    go_wp2
    refine bodyPost_end (v := .tuple #[]) (by simp [results, Try.results97, go_sem]) rfl ⟨rfl, rfl⟩
theorem eStable_nil (v : Value) : Calls Try.prog 93 #[.slice none 0 0, .int .i64 0, v] w fun e w' => e = .returned (.tuple #[]) ∧ w = w' := by
  have hi := eIns_nil w v
  go_enter Try.func93, Try.ntmps93
  go_wp2
  go_loopw [7, 8] (fun a b wr => a = .int .i64 0 ∧ b = .int .i64 20 ∧ w = wr) (fun _ _ _ => 0)
  case atStart => exact ⟨rfl, rfl, rfl⟩
  case round =>
    obtain ⟨rfl, rfl, rfl⟩ := hrel
    go_wp2_with (go_at_call 97; (refine hi.mono ?_); rintro e w2 ⟨rfl, rfl⟩)
    go_loopw [6] (fun a wr => a = .int .i64 20 ∧ w = wr) (fun _ _ => 0)
    case atStart => exact ⟨rfl, rfl⟩
    case round =>
      obtain ⟨rfl, rfl⟩ := hrel
      go_wp2
      refine bodyPost_end (v := .tuple #[]) (by simp [results, Try.results93, go_sem]) rfl ⟨rfl, rfl⟩
theorem eSort_nil (v : Value) : Calls Try.prog 88 #[.slice none 0 0, v] w fun e w' => e = .returned (.tuple #[]) ∧ w = w' := by
  have hi := eStable_nil w v
  go_enter Try.func88, Try.ntmps88
  go_wp2_with (go_at_call 93; (refine hi.mono ?_); rintro e w2 ⟨rfl, rfl⟩)
  refine bodyPost_end (v := .tuple #[]) (by simp [results, Try.results88, go_sem]) rfl ⟨rfl, rfl⟩
theorem fClone_nil : Calls Try.prog 82 #[.slice none 0 0] w fun e w' => e = .returned (.slice none 0 0) ∧ w = w' := by
  have q26 : ∀ (w : World) (a : Option Addr) (n c n' c' : Nat), (binOp .eql 33 (.slice a n c) (.slice none n' c')).run Try.prog w = .ok (.bool a.isNone) w := fun w a n c n' c' => Lib.run_eql_slice_nil w _ _ a n c n' c' Try.underlying33
  go_enter Try.func82, Try.ntmps82
  go_wp2
  go_ret
  exact ⟨rfl, rfl⟩
theorem fIns_nil (v : Value) : Calls Try.prog 95 #[.slice none 0 0, .int .i64 0, .int .i64 0, v] w fun e w' => e = .returned (.tuple #[]) ∧ w = w' := by
  go_enter Try.func95, Try.ntmps95
  go_wp2
  go_loopw [8] (fun i wr => i = .int .i64 1 ∧ w = wr) (fun _ _ => 0)
  case atStart => exact ⟨rfl, rfl⟩
  case round =>
    obtain ⟨rfl, rfl⟩ := hrel
    go_wp2
    refine bodyPost_end (v := .tuple #[]) (by simp [results, Try.results95, go_sem]) rfl ⟨rfl, rfl⟩
theorem fStable_nil (v : Value) : Calls Try.prog 92 #[.slice none 0 0, .int .i64 0, v] w fun e w' => e = .returned (.tuple #[]) ∧ w = w' := by
  have hi := fIns_nil w v
  go_enter Try.func92, Try.ntmps92
  go_wp2
  go_loopw [7, 8] (fun a b wr => a = .int .i64 0 ∧ b = .int .i64 20 ∧ w = wr) (fun _ _ _ => 0)
  case atStart => exact ⟨rfl, rfl, rfl⟩
  case round =>
    obtain ⟨rfl, rfl, rfl⟩ := hrel
    go_wp2_with (go_at_call 95; (refine hi.mono ?_); rintro e w2 ⟨rfl, rfl⟩)
    go_loopw [6] (fun a wr => a = .int .i64 20 ∧ w = wr) (fun _ _ => 0)
    case atStart => exact ⟨rfl, rfl⟩
    case round =>
      obtain ⟨rfl, rfl⟩ := hrel
      go_wp2
      refine bodyPost_end (v := .tuple #[]) (by simp [results, Try.results92, go_sem]) rfl ⟨rfl, rfl⟩
theorem fSort_nil (v : Value) : Calls Try.prog 83 #[.slice none 0 0, v] w fun e w' => e = .returned (.tuple #[]) ∧ w = w' := by
  have hi := fStable_nil w v
  go_enter Try.func83, Try.ntmps83
  go_wp2_with (go_at_call 92; (refine hi.mono ?_); rintro e w2 ⟨rfl, rfl⟩)
  refine bodyPost_end (v := .tuple #[]) (by simp [results, Try.results83, go_sem]) rfl ⟨rfl, rfl⟩
end
end Go.Proofs.Ytcemlacfldonlaa
