/- The library's functions on slices that have nothing, on. -/
import Derived.Test.YtcemlacfldonlaaQuoEmp
namespace Go.Proofs.Ytcemlacfldonlaa
open Go.RowKit
section
variable (w : World)
set_option maxHeartbeats 1000000
set_option maxRecDepth 100000
theorem eIdx_nil (v : Value) : Calls Try.prog 80 #[.slice none 0 0, v] w fun e w' => e = .returned (.int .i64 (-1)) ∧ w = w' := by
  go_enter Try.func80, Try.ntmps80
  go_wp2
  go_loopw [8] (fun i wr => i = .int .i64 0 ∧ w = wr) (fun _ _ => 0)
  case atStart => exact ⟨rfl, rfl⟩
  case round =>
    obtain ⟨rfl, rfl⟩ := hrel
    go_wp2
    go_ret
    exact ⟨rfl, rfl⟩
theorem eDel_nil (v : Value) : Calls Try.prog 55 #[.slice none 0 0, v] w fun e w' => e = .returned (.slice none 0 0) ∧ w = w' := by
  have hi := eIdx_nil w v
  go_enter Try.func55, Try.ntmps55
  go_wp2_with (go_at_call 80; (refine hi.mono ?_); rintro e w2 ⟨rfl, rfl⟩)
  go_ret
  exact ⟨rfl, rfl⟩
theorem eEqual_nil : Calls Try.prog 45 #[.slice none 0 0, .slice none 0 0] w fun e w' => e = .returned (.bool true) ∧ w = w' := by
  go_enter Try.func45, Try.ntmps45
  go_wp2
  go_loopw [13] (fun i wr => i = .int .i64 0 ∧ w = wr) (fun _ _ => 0)
  case atStart => exact ⟨rfl, rfl⟩
  case round =>
    obtain ⟨rfl, rfl⟩ := hrel
    go_wp2
    go_ret
    exact ⟨rfl, rfl⟩
theorem fEqual_nil (v : Value) : Calls Try.prog 46 #[.slice none 0 0, .slice none 0 0, v] w fun e w' => e = .returned (.bool true) ∧ w = w' := by
  go_enter Try.func46, Try.ntmps46
  go_wp2
  go_loopw [17] (fun i wr => i = .int .i64 0 ∧ w = wr) (fun _ _ => 0)
  case atStart => exact ⟨rfl, rfl⟩
  case round =>
    obtain ⟨rfl, rfl⟩ := hrel
    go_wp2
    go_ret
    exact ⟨rfl, rfl⟩
theorem eMerged_nil (a b c : Value) : Calls Try.prog 72 #[.slice none 0 0, a, b, c] w fun e w' => e = .returned (.slice none 0 0) ∧ w = w' := by
  have hc := eClone_nil w
  have hs := eSort_nil w a
  go_enter Try.func72, Try.ntmps72
  go_wp2_with (first
    | (go_at_call 88; (refine hs.mono ?_); rintro e w2 ⟨rfl, rfl⟩)
    | (go_at_call 56; (refine hc.mono ?_); rintro e w2 ⟨rfl, rfl⟩))
  go_loopw [9, 20] (fun o i wr => o = .slice none 0 0 ∧ i = .int .i64 0 ∧ w = wr) (fun _ _ _ => 0)
  case atStart => exact ⟨rfl, rfl, rfl⟩
  case round =>
    obtain ⟨rfl, rfl, rfl⟩ := hrel
    go_wp2
    go_ret
    exact ⟨rfl, rfl⟩
theorem eGrow_nil : Calls Try.prog 81 #[.slice none 0 0, .int .i64 0] w fun e w' => e = .returned (.slice none 0 0) ∧ w = w' := by
  go_enter Try.func81, Try.ntmps81
  go_wp2
  go_ret
  exact ⟨rfl, rfl⟩
theorem eConcat_nil (b c : Nat) (h0 : w.cell? ⟨b, 0, none⟩ = some (.slice none 0 0)) (h1 : w.cell? ⟨b, 1, none⟩ = some (.slice none 0 0)) : Calls Try.prog 60 #[.slice (some ⟨b, 0, none⟩) 2 c] w fun e w' => e = .returned (.slice none 0 0) ∧ Fr w.heap.size [] w w' := by
  have hg := fun W => eGrow_nil W
  go_enter Try.func60, Try.ntmps60
  go_wp2
  go_loopw [3, 11] (fun s i wr => s = .int .i64 0 ∧ (i = .int .i64 0 ∨ i = .int .i64 1 ∨ i = .int .i64 2) ∧ w = wr) (fun _ i _ => 2 - (intOf i).toNat)
  case atStart => exact ⟨rfl, .inl rfl, rfl⟩
  case round =>
    obtain ⟨rfl, rfl | rfl | rfl, rfl⟩ := hrel
    · go_wp2
      exact ⟨⟨rfl, .inr (.inl rfl), by trivial⟩, by simp [intOf]⟩
    · go_wp2
      exact ⟨⟨rfl, .inr (.inr rfl), by trivial⟩, by simp [intOf]⟩
    · go_wp2_with (go_at_call 81; (refine (hg _).mono ?_); rintro e w2 ⟨rfl, rfl⟩)
      go_loopw [6, 27] (fun s i wr => s = .slice none 0 0 ∧ (i = .int .i64 0 ∨ i = .int .i64 1 ∨ i = .int .i64 2) ∧ w = wr) (fun _ i _ => 2 - (intOf i).toNat)
      case atStart => exact ⟨rfl, .inl rfl, rfl⟩
      case round =>
        obtain ⟨rfl, rfl | rfl | rfl, rfl⟩ := hrel
        · go_wp2
          exact ⟨⟨rfl, .inr (.inl rfl), by trivial⟩, by simp [intOf]⟩
        · go_wp2
          exact ⟨⟨rfl, .inr (.inr rfl), by trivial⟩, by simp [intOf]⟩
        · go_wp2
          go_ret
          exact ⟨rfl, Fr.refl _ _ _⟩
theorem fMerged_nil (a b c : Value) : Calls Try.prog 61 #[.slice none 0 0, a, b, c] w fun e w' => e = .returned (.slice none 0 0) ∧ w = w' := by
  have hc := fClone_nil w
  have hs := fSort_nil w a
  go_enter Try.func61, Try.ntmps61
  go_wp2_with (first
    | (go_at_call 83; (refine hs.mono ?_); rintro e w2 ⟨rfl, rfl⟩)
    | (go_at_call 82; (refine hc.mono ?_); rintro e w2 ⟨rfl, rfl⟩))
  go_loopw [9, 20] (fun o i wr => o = .slice none 0 0 ∧ i = .int .i64 0 ∧ w = wr) (fun _ _ _ => 0)
  case atStart => exact ⟨rfl, rfl, rfl⟩
  case round =>
    obtain ⟨rfl, rfl, rfl⟩ := hrel
    go_wp2
    go_ret
    exact ⟨rfl, rfl⟩
theorem fGrow_nil : Calls Try.prog 84 #[.slice none 0 0, .int .i64 0] w fun e w' => e = .returned (.slice none 0 0) ∧ w = w' := by
  go_enter Try.func84, Try.ntmps84
  go_wp2
  go_ret
  exact ⟨rfl, rfl⟩
theorem fConcat_nil (b c : Nat) (h0 : w.cell? ⟨b, 0, none⟩ = some (.slice none 0 0)) (h1 : w.cell? ⟨b, 1, none⟩ = some (.slice none 0 0)) : Calls Try.prog 62 #[.slice (some ⟨b, 0, none⟩) 2 c] w fun e w' => e = .returned (.slice none 0 0) ∧ Fr w.heap.size [] w w' := by
  have hg := fun W => fGrow_nil W
  go_enter Try.func62, Try.ntmps62
  go_wp2
  go_loopw [3, 11] (fun s i wr => s = .int .i64 0 ∧ (i = .int .i64 0 ∨ i = .int .i64 1 ∨ i = .int .i64 2) ∧ w = wr) (fun _ i _ => 2 - (intOf i).toNat)
  case atStart => exact ⟨rfl, .inl rfl, rfl⟩
  case round =>
    obtain ⟨rfl, rfl | rfl | rfl, rfl⟩ := hrel
    · go_wp2
      exact ⟨⟨rfl, .inr (.inl rfl), by trivial⟩, by simp [intOf]⟩
    · go_wp2
      exact ⟨⟨rfl, .inr (.inr rfl), by trivial⟩, by simp [intOf]⟩
    · go_wp2_with (go_at_call 84; (refine (hg _).mono ?_); rintro e w2 ⟨rfl, rfl⟩)
      go_loopw [6, 27] (fun s i wr => s = .slice none 0 0 ∧ (i = .int .i64 0 ∨ i = .int .i64 1 ∨ i = .int .i64 2) ∧ w = wr) (fun _ i _ => 2 - (intOf i).toNat)
      case atStart => exact ⟨rfl, .inl rfl, rfl⟩
      case round =>
        obtain ⟨rfl, rfl | rfl | rfl, rfl⟩ := hrel
        · go_wp2
          exact ⟨⟨rfl, .inr (.inl rfl), by trivial⟩, by simp [intOf]⟩
        · go_wp2
          exact ⟨⟨rfl, .inr (.inr rfl), by trivial⟩, by simp [intOf]⟩
        · go_wp2
          go_ret
          exact ⟨rfl, Fr.refl _ _ _⟩
end
end Go.Proofs.Ytcemlacfldonlaa
