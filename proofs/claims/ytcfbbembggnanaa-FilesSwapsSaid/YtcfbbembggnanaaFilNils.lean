/- The nil disk. -/
import Derived.Test.YtcfbbembggnanaaFilRemove
namespace Go.Proofs.Ytcfbbembggnanaa
open Go.RowKit Go.Maps
set_option maxRecDepth 100000 in
set_option maxHeartbeats 1000000 in
theorem append_nil (w : World) (x : Key) (A : Option Addr) (n c : Nat) : Calls Try.prog 11 #[.pointer none, KV x, .slice A n c] w fun e w' => e = .returned (.int .i64 23) ∧ Fr w.heap.size [] w w' := by
  obtain ⟨s, hs⟩ : ∃ s : ByteArray, KV x = .string s := ⟨_, rfl⟩
  rw [hs]
  go_enter Try.func11, Try.ntmps11
  go_wp2_with (go_at_call 25; (refine (ask_nil _ _ _ _).mono ?_); rintro e w2 ⟨rfl, rfl⟩)
  go_ret
  exact ⟨rfl, (Fr.refl _ _ _).alloc (Nat.le_refl _) _⟩
set_option maxRecDepth 100000 in
set_option maxHeartbeats 1000000 in
theorem each_nil (w : World) (A : Option Addr) (c : Nat) (x : Key) (fv : Value) (hA : ARow w w.heap.size A ([x].map KV)) : Calls Try.prog 28 #[.pointer none, .slice A 1 c, fv] w fun e w' => e = .returned (.int .i64 23) ∧ Fr w.heap.size [] w w' := by
  obtain ⟨blk, o, rfl, hb, e0⟩ := name_of hA 0 (by simp)
  have ht := there_nil w x
  obtain ⟨s, hs⟩ : ∃ s : ByteArray, KV x = .string s := ⟨_, rfl⟩
  rw [hs] at ht
  have e1 : w.cell? ⟨blk, o, none⟩ = some (.string s) := by rw [← hs]; exact e0
  clear e0
  go_enter Try.func28, Try.ntmps28
  go_wp2
  go_loopw [13] (fun i wr => i = .int .i64 0 ∧ wr = w) (fun _ _ => 0)
  case atStart => exact ⟨rfl, rfl⟩
  case round =>
    obtain ⟨rfl, rfl⟩ := hrel
    go_wp2_with (go_at_call 35; (refine ht.mono ?_); rintro e w2 ⟨rfl, f2⟩)
    go_ret
    exact ⟨rfl, f2⟩
set_option maxHeartbeats 1000000 in
theorem sync_nil (w : World) (A : Option Addr) (c : Nat) (x : Key) (hA : ARow w w.heap.size A ([x].map KV)) : Calls Try.prog 12 #[.pointer none, .slice A 1 c] w fun e w' => e = .returned (.int .i64 23) ∧ Fr w.heap.size [] w w' := by
  have he := each_nil w A c x (.func (.func 29) #[] #[]) hA
  go_enter Try.func12, Try.ntmps12
  go_wp2_with (go_at_call 28; (refine he.mono ?_); rintro e w2 ⟨rfl, f2⟩)
  go_ret
  exact ⟨rfl, f2⟩
set_option maxHeartbeats 1000000 in
theorem remove_nil (w : World) (A : Option Addr) (c : Nat) (x : Key) (hA : ARow w w.heap.size A ([x].map KV)) : Calls Try.prog 21 #[.pointer none, .slice A 1 c] w fun e w' => e = .returned (.int .i64 23) ∧ Fr w.heap.size [] w w' := by
  have f1 := (Fr.refl w.heap.size [] w).alloc (Nat.le_refl _) (.cells #[.pointer none] 25)
  have hbx := Has.new w 25 [.pointer none]
  have c0 : (w.alloc (.cells #[.pointer none] 25)).cell? ⟨w.heap.size, 0, none⟩ = some (.pointer none) := hbx.cell 0
  have he := each_nil (w.alloc (.cells #[.pointer none] 25)) A c x (.func (.func 39) #[] #[.pointer (some ⟨w.heap.size, 0, none⟩)]) ((hA.fr f1 (Nat.le_refl _) (by simp)).mono f1.size)
  go_enter Try.func21, Try.ntmps21
  go_wp2_with (go_at_call 28; (refine he.mono ?_); rintro e w2 ⟨rfl, f2⟩)
  go_ret
  exact ⟨rfl, f1.trans (f2.mono f1.size (by simp))⟩
set_option maxRecDepth 100000 in
set_option maxHeartbeats 1000000 in
theorem rename_nil (w : World) (x y : Key) : Calls Try.prog 22 #[.pointer none, KV x, KV y] w fun e w' => e = .returned (.int .i64 23) ∧ Fr w.heap.size [] w w' := by
  obtain ⟨s, hs⟩ : ∃ s : ByteArray, KV x = .string s := ⟨_, rfl⟩
  obtain ⟨t, ht⟩ : ∃ t : ByteArray, KV y = .string t := ⟨_, rfl⟩
  rw [hs, ht]
  have f1 := (((((Fr.refl w.heap.size [] w).alloc (Nat.le_refl _) (.cells #[.pointer none] 25)).alloc (by simp) (.cells #[.string s] 9)).alloc (by simp; omega) (.cells #[.string t] 9)).alloc (by simp; omega) (.cells #[.string s, .string t] 9))
  go_enter Try.func22, Try.ntmps22
  go_wp2_with (go_at_call 25; (refine (ask_nil _ _ _ _).mono ?_); rintro e w2 ⟨rfl, rfl⟩)
  go_ret
  exact ⟨rfl, f1⟩
end Go.Proofs.Ytcfbbembggnanaa
