/- The library's functions on slices that have nothing, on. -/
import Derived.Test.YtcemlacfldonlaaGreatQuoEmp
namespace Go.Proofs.YtcemlacfldonlaaGreat
open Go.RowKit
section
variable (w : World)
set_option maxHeartbeats 1000000
set_option maxRecDepth 100000
theorem eIdx_nil (v : Value) : Calls Tryz.prog 110 #[.slice none 0 0, v] w fun e w' => e = .returned (.int .i64 (-1)) ∧ w = w' := by
  go_enter Tryz.func110, Tryz.ntmps110
  go_wp2
  go_loopw [8] (fun i wr => i = .int .i64 0 ∧ w = wr) (fun _ _ => 0)
  case atStart => exact ⟨rfl, rfl⟩
  case round =>
    obtain ⟨rfl, rfl⟩ := hrel
    go_wp2
    go_ret
    exact ⟨rfl, rfl⟩
theorem eDel_nil (v : Value) : Calls Tryz.prog 75 #[.slice none 0 0, v] w fun e w' => e = .returned (.slice none 0 0) ∧ w = w' := by
  have hi := eIdx_nil w v
  go_enter Tryz.func75, Tryz.ntmps75
  go_wp2_with (go_at_call 110; (refine hi.mono ?_); rintro e w2 ⟨rfl, rfl⟩)
  go_ret
  exact ⟨rfl, rfl⟩
theorem eEqual_nil : Calls Tryz.prog 98 #[.slice none 0 0, .slice none 0 0] w fun e w' => e = .returned (.bool true) ∧ w = w' := by
  go_enter Tryz.func98, Tryz.ntmps98
  go_wp2
  go_loopw [13] (fun i wr => i = .int .i64 0 ∧ w = wr) (fun _ _ => 0)
  case atStart => exact ⟨rfl, rfl⟩
  case round =>
    obtain ⟨rfl, rfl⟩ := hrel
    go_wp2
    go_ret
    exact ⟨rfl, rfl⟩
theorem fEqual_nil (v : Value) : Calls Tryz.prog 99 #[.slice none 0 0, .slice none 0 0, v] w fun e w' => e = .returned (.bool true) ∧ w = w' := by
  go_enter Tryz.func99, Tryz.ntmps99
  go_wp2
  go_loopw [17] (fun i wr => i = .int .i64 0 ∧ w = wr) (fun _ _ => 0)
  case atStart => exact ⟨rfl, rfl⟩
  case round =>
    obtain ⟨rfl, rfl⟩ := hrel
    go_wp2
    go_ret
    exact ⟨rfl, rfl⟩
theorem eMerged_nil (a b c : Value) : Calls Tryz.prog 102 #[.slice none 0 0, a, b, c] w fun e w' => e = .returned (.slice none 0 0) ∧ w = w' := by
  have hc := eClone_nil w
  have hs := eSort_nil w a
  go_enter Tryz.func102, Tryz.ntmps102
  go_wp2_with (first
    | (go_at_call 125; (refine hs.mono ?_); rintro e w2 ⟨rfl, rfl⟩)
    | (go_at_call 76; (refine hc.mono ?_); rintro e w2 ⟨rfl, rfl⟩))
  go_loopw [9, 20] (fun o i wr => o = .slice none 0 0 ∧ i = .int .i64 0 ∧ w = wr) (fun _ _ _ => 0)
  case atStart => exact ⟨rfl, rfl, rfl⟩
  case round =>
    obtain ⟨rfl, rfl, rfl⟩ := hrel
    go_wp2
    go_ret
    exact ⟨rfl, rfl⟩
theorem eGrow_nil : Calls Tryz.prog 112 #[.slice none 0 0, .int .i64 0] w fun e w' => e = .returned (.slice none 0 0) ∧ w = w' := by
  go_enter Tryz.func112, Tryz.ntmps112
  go_wp2
  go_ret
  exact ⟨rfl, rfl⟩
theorem eConcat_nil (b c : Nat) (h0 : w.cell? ⟨b, 0, none⟩ = some (.slice none 0 0)) (h1 : w.cell? ⟨b, 1, none⟩ = some (.slice none 0 0)) : Calls Tryz.prog 81 #[.slice (some ⟨b, 0, none⟩) 2 c] w fun e w' => e = .returned (.slice none 0 0) ∧ Fr w.heap.size [] w w' := by
  have hg := fun W => eGrow_nil W
  go_enter Tryz.func81, Tryz.ntmps81
  go_wp2
  go_loopw [3, 11] (fun s i wr => s = .int .i64 0 ∧ (i = .int .i64 0 ∨ i = .int .i64 1 ∨ i = .int .i64 2) ∧ w = wr) (fun _ i _ => 2 - (intOf i).toNat)
  case atStart => exact ⟨rfl, .inl rfl, rfl⟩
  case round =>
    obtain ⟨rfl, rfl | rfl | rfl, rfl⟩ := hrel
    · go_wp2
      exact ⟨⟨rfl, .inr (.inl rfl), by trivial⟩, by simp [intOf]⟩
    · go_wp2
      exact ⟨⟨rfl, .inr (.inr rfl), by trivial⟩, by simp [intOf]⟩
    · go_wp2_with (go_at_call 112; (refine (hg _).mono ?_); rintro e w2 ⟨rfl, rfl⟩)
      go_loopw [6, 27] (fun s i wr => s = .slice none 0 0 ∧ (i = .int .i64 0 ∨ i = .int .i64 1 ∨ i = .int .i64 2) ∧ w = wr) (fun _ i _ => 2 - (intOf i).toNat)
      case atStart => exact ⟨rfl, .inl rfl, rfl⟩
      case round =>
        obtain ⟨rfl, rfl | rfl | rfl, rfl⟩ := hrel
        · go_wp2
          exact ⟨⟨rfl, .inr (.inl rfl), by trivial⟩, by simp [intOf]⟩
        · go_wp2
          exact ⟨⟨rfl, .inr (.inr rfl), by trivial⟩, by simp [intOf]⟩
        · go_wp2
          go_ret
          exact ⟨rfl, Fr.refl _ _ _⟩
theorem fMerged_nil (a b c : Value) : Calls Tryz.prog 82 #[.slice none 0 0, a, b, c] w fun e w' => e = .returned (.slice none 0 0) ∧ w = w' := by
  have hc := fClone_nil w
  have hs := fSort_nil w a
  go_enter Tryz.func82, Tryz.ntmps82
  go_wp2_with (first
    | (go_at_call 114; (refine hs.mono ?_); rintro e w2 ⟨rfl, rfl⟩)
    | (go_at_call 113; (refine hc.mono ?_); rintro e w2 ⟨rfl, rfl⟩))
  go_loopw [9, 20] (fun o i wr => o = .slice none 0 0 ∧ i = .int .i64 0 ∧ w = wr) (fun _ _ _ => 0)
  case atStart => exact ⟨rfl, rfl, rfl⟩
  case round =>
    obtain ⟨rfl, rfl, rfl⟩ := hrel
    go_wp2
    go_ret
    exact ⟨rfl, rfl⟩
theorem fGrow_nil : Calls Tryz.prog 115 #[.slice none 0 0, .int .i64 0] w fun e w' => e = .returned (.slice none 0 0) ∧ w = w' := by
  go_enter Tryz.func115, Tryz.ntmps115
  go_wp2
  go_ret
  exact ⟨rfl, rfl⟩
theorem fConcat_nil (b c : Nat) (h0 : w.cell? ⟨b, 0, none⟩ = some (.slice none 0 0)) (h1 : w.cell? ⟨b, 1, none⟩ = some (.slice none 0 0)) : Calls Tryz.prog 83 #[.slice (some ⟨b, 0, none⟩) 2 c] w fun e w' => e = .returned (.slice none 0 0) ∧ Fr w.heap.size [] w w' := by
  have hg := fun W => fGrow_nil W
  go_enter Tryz.func83, Tryz.ntmps83
  go_wp2
  go_loopw [3, 11] (fun s i wr => s = .int .i64 0 ∧ (i = .int .i64 0 ∨ i = .int .i64 1 ∨ i = .int .i64 2) ∧ w = wr) (fun _ i _ => 2 - (intOf i).toNat)
  case atStart => exact ⟨rfl, .inl rfl, rfl⟩
  case round =>
    obtain ⟨rfl, rfl | rfl | rfl, rfl⟩ := hrel
    · go_wp2
      exact ⟨⟨rfl, .inr (.inl rfl), by trivial⟩, by simp [intOf]⟩
    · go_wp2
      exact ⟨⟨rfl, .inr (.inr rfl), by trivial⟩, by simp [intOf]⟩
    · go_wp2_with (go_at_call 115; (refine (hg _).mono ?_); rintro e w2 ⟨rfl, rfl⟩)
      go_loopw [6, 27] (fun s i wr => s = .slice none 0 0 ∧ (i = .int .i64 0 ∨ i = .int .i64 1 ∨ i = .int .i64 2) ∧ w = wr) (fun _ i _ => 2 - (intOf i).toNat)
      case atStart => exact ⟨rfl, .inl rfl, rfl⟩
      case round =>
        obtain ⟨rfl, rfl | rfl | rfl, rfl⟩ := hrel
        · go_wp2
          exact ⟨⟨rfl, .inr (.inl rfl), by trivial⟩, by simp [intOf]⟩
        · go_wp2
          exact ⟨⟨rfl, .inr (.inr rfl), by trivial⟩, by simp [intOf]⟩
        · go_wp2
          go_ret
          exact ⟨rfl, Fr.refl _ _ _⟩
end
end Go.Proofs.YtcemlacfldonlaaGreat
