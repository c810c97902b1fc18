/- The library's functions on slices that have nothing. -/
import Derived.Test.YtcemlacfldonlaaGreatQuoRead
import Derived.Lib.SliceRun
namespace Go.Proofs.YtcemlacfldonlaaGreat
open Go.RowKit
section
variable (w : World)
set_option maxHeartbeats 1000000
set_option maxRecDepth 100000
theorem eClone_nil : Calls Tryz.prog 76 #[.slice none 0 0] w fun e w' => e = .returned (.slice none 0 0) ∧ w = w' := by
  have q26 : ∀ (w : World) (a : Option Addr) (n c n' c' : Nat), (binOp .eql 33 (.slice a n c) (.slice none n' c')).run Tryz.prog w = .ok (.bool a.isNone) w := fun w a n c n' c' => Lib.run_eql_slice_nil w _ _ a n c n' c' Tryz.underlying33
  go_enter Tryz.func76, Tryz.ntmps76
  go_wp2
  go_ret
  exact ⟨rfl, rfl⟩
theorem eIns_nil (v : Value) : Calls Tryz.prog 136 #[.slice none 0 0, .int .i64 0, .int .i64 0, v] w fun e w' => e = .returned (.tuple #[]) ∧ w = w' := by
  go_enter Tryz.func136, Tryz.ntmps136
  go_wp2
  go_loopw [8] (fun i wr => i = .int .i64 1 ∧ w = wr) (fun _ _ => 0)
  case atStart => exact ⟨rfl, rfl⟩
  case round =>
    obtain ⟨rfl, rfl⟩ := hrel
    go_wp2
    refine bodyPost_end (v := .tuple #[]) (by simp [results, Tryz.results136, go_sem]) rfl ⟨rfl, rfl⟩
theorem eStable_nil (v : Value) : Calls Tryz.prog 132 #[.slice none 0 0, .int .i64 0, v] w fun e w' => e = .returned (.tuple #[]) ∧ w = w' := by
  have hi := eIns_nil w v
  go_enter Tryz.func132, Tryz.ntmps132
  go_wp2
  go_loopw [7, 8] (fun a b wr => a = .int .i64 0 ∧ b = .int .i64 20 ∧ w = wr) (fun _ _ _ => 0)
  case atStart => exact ⟨rfl, rfl, rfl⟩
  case round =>
    obtain ⟨rfl, rfl, rfl⟩ := hrel
    go_wp2_with (go_at_call 136; (refine hi.mono ?_); rintro e w2 ⟨rfl, rfl⟩)
    go_loopw [6] (fun a wr => a = .int .i64 20 ∧ w = wr) (fun _ _ => 0)
    case atStart => exact ⟨rfl, rfl⟩
    case round =>
      obtain ⟨rfl, rfl⟩ := hrel
      go_wp2
      refine bodyPost_end (v := .tuple #[]) (by simp [results, Tryz.results132, go_sem]) rfl ⟨rfl, rfl⟩
theorem eSort_nil (v : Value) : Calls Tryz.prog 125 #[.slice none 0 0, v] w fun e w' => e = .returned (.tuple #[]) ∧ w = w' := by
  have hi := eStable_nil w v
  go_enter Tryz.func125, Tryz.ntmps125
  go_wp2_with (go_at_call 132; (refine hi.mono ?_); rintro e w2 ⟨rfl, rfl⟩)
  refine bodyPost_end (v := .tuple #[]) (by simp [results, Tryz.results125, go_sem]) rfl ⟨rfl, rfl⟩
theorem fClone_nil : Calls Tryz.prog 113 #[.slice none 0 0] w fun e w' => e = .returned (.slice none 0 0) ∧ w = w' := by
  have q26 : ∀ (w : World) (a : Option Addr) (n c n' c' : Nat), (binOp .eql 34 (.slice a n c) (.slice none n' c')).run Tryz.prog w = .ok (.bool a.isNone) w := fun w a n c n' c' => Lib.run_eql_slice_nil w _ _ a n c n' c' Tryz.underlying34
  go_enter Tryz.func113, Tryz.ntmps113
  go_wp2
  go_ret
  exact ⟨rfl, rfl⟩
theorem fIns_nil (v : Value) : Calls Tryz.prog 134 #[.slice none 0 0, .int .i64 0, .int .i64 0, v] w fun e w' => e = .returned (.tuple #[]) ∧ w = w' := by
  go_enter Tryz.func134, Tryz.ntmps134
  go_wp2
  go_loopw [8] (fun i wr => i = .int .i64 1 ∧ w = wr) (fun _ _ => 0)
  case atStart => exact ⟨rfl, rfl⟩
  case round =>
    obtain ⟨rfl, rfl⟩ := hrel
    go_wp2
    refine bodyPost_end (v := .tuple #[]) (by simp [results, Tryz.results134, go_sem]) rfl ⟨rfl, rfl⟩
theorem fStable_nil (v : Value) : Calls Tryz.prog 129 #[.slice none 0 0, .int .i64 0, v] w fun e w' => e = .returned (.tuple #[]) ∧ w = w' := by
  have hi := fIns_nil w v
  go_enter Tryz.func129, Tryz.ntmps129
  go_wp2
  go_loopw [7, 8] (fun a b wr => a = .int .i64 0 ∧ b = .int .i64 20 ∧ w = wr) (fun _ _ _ => 0)
  case atStart => exact ⟨rfl, rfl, rfl⟩
  case round =>
    obtain ⟨rfl, rfl, rfl⟩ := hrel
    go_wp2_with (go_at_call 134; (refine hi.mono ?_); rintro e w2 ⟨rfl, rfl⟩)
    go_loopw [6] (fun a wr => a = .int .i64 20 ∧ w = wr) (fun _ _ => 0)
    case atStart => exact ⟨rfl, rfl⟩
    case round =>
      obtain ⟨rfl, rfl⟩ := hrel
      go_wp2
      refine bodyPost_end (v := .tuple #[]) (by simp [results, Tryz.results129, go_sem]) rfl ⟨rfl, rfl⟩
theorem fSort_nil (v : Value) : Calls Tryz.prog 114 #[.slice none 0 0, v] w fun e w' => e = .returned (.tuple #[]) ∧ w = w' := by
  have hi := fStable_nil w v
  go_enter Tryz.func114, Tryz.ntmps114
  go_wp2_with (go_at_call 129; (refine hi.mono ?_); rintro e w2 ⟨rfl, rfl⟩)
  refine bodyPost_end (v := .tuple #[]) (by simp [results, Tryz.results114, go_sem]) rfl ⟨rfl, rfl⟩
end
end Go.Proofs.YtcemlacfldonlaaGreat
