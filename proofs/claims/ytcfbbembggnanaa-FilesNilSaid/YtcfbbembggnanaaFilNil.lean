/- FilesNil: the walk. -/
import Derived.Test.YtcfbbembggnanaaFilAwake
namespace Go.Proofs.Ytcfbbembggnanaa
open Go.RowKit Go.Maps
theorem fat_zero (w : World) : FAt w.heap.size [] w (w.alloc (.cells #[.map none, .int .i64 0, .int .i64 0, .bool false, .int .i64 0] 45)) w.heap.size ⟨0, 0, 0, false, []⟩ :=
  ⟨[w.heap.size], [], ⟨⟨.map none, Has.new w _ [.map none, .int .i64 0, .int .i64 0, .bool false, .int .i64 0], .inl ⟨rfl, rfl⟩⟩, by simp, by simp, by simp, by simp, by simp⟩, rfl, by simp, by simp, (Fr.refl _ _ _).alloc (Nat.le_refl _) _⟩
set_option maxRecDepth 100000 in
set_option maxHeartbeats 4000000 in
theorem nil_law (w : World) (s : ByteArray) (n : Int) (hs : s.size ≤ maxLen) : Calls Try.prog 8 #[.string s, .int .i64 n] w fun e w' => e = .returned (.bool true) ∧ Fr w.heap.size [] w w' := by
  obtain ⟨k, hKV⟩ : ∃ k : Key, KV k = .string s := ⟨keyB s hs, KV_keyB s hs⟩
  have h0 := fat_zero w
  have cR := fun W => read_nil W k
  have cA := fun W A n c => append_nil W k A n c
  have cN := fun W => rename_nil W k k
  have cS := fun W => sync_nil (W.alloc (.cells #[KV k] 9)) (some ⟨W.heap.size, 0, none⟩) 1 k (row_new W _ [KV k])
  have cM := fun W => remove_nil (W.alloc (.cells #[KV k] 9)) (some ⟨W.heap.size, 0, none⟩) 1 k (row_new W _ [KV k])
  simp only [hKV] at cR cA cN cS cM
  have e1 : appS ⟨0, 0, 0, false, []⟩ ka [[]].flatten = (23, ⟨0, 0, 0, false, []⟩) := by decide
  have e2 : appS ⟨0, 0, 0, true, []⟩ ka [[]].flatten = (0, ⟨0, 0, 1, true, [(ka, ⟨[], 0⟩)]⟩) := by decide
  have e9 : strV [] = .string ⟨#[]⟩ := rfl
  rw [e9] at cR
  go_enter Try.func8, Try.ntmps8
  go_upto_region 4 with (go_at_call 23; (refine (limit_nil _ n).mono ?_); rintro e w1 ⟨rfl, rfl⟩)
  go_upto_region 5 with (go_at_call 20; (refine (arm_nil _ n).mono ?_); rintro e w1 ⟨rfl, rfl⟩)
  have h1 := h0.alloc (.cells #[.int .i64 n] 3)
  go_upto_region 6 with (go_at_call 13; (refine (crash_nil _ _ _ _).mono ?_); rintro e w1 ⟨rfl, f1⟩)
  have h2 := (h1.fr f1).1
  go_upto_region 7 with (go_at_call 14; (refine (cR _).mono ?_); rintro e w2 ⟨rfl, f2⟩)
  have h3 := (h2.fr f2).1
  have c3 := fat_append_lit h3 (by decide) (by decide) (by decide) (by decide) ka 1 [[]] (by decide) (by decide) (by decide)
  rw [e1] at c3
  go_upto_region 8 with (go_at_call 11; (refine c3.mono ?_); rintro e w3 ⟨rfl, h4, -⟩)
  have c4 := fat_crash h4 (by decide) (by simp) none 0 [] (.inl rfl) (by simp) (by decide) (by decide) (by simp)
  go_upto_region 9 with (go_at_call 13; (refine c4.mono ?_); rintro e w4 ⟨ns, hns, rfl, h5, -⟩)
  obtain rfl : ns = [] := List.perm_nil.1 hns
  have c5 := fat_append_lit h5 (by decide) (by decide) (by decide) (by decide) ka 1 [[]] (by decide) (by decide) (by decide)
  rw [show crashP [] ([] : FP) [] = [] from rfl, e2] at c5
  go_upto_region 10 with (go_at_call 11; (refine c5.mono ?_); rintro e w5 ⟨rfl, h6, -⟩)
  have F6 := h6.frame
  clear c3 c4 c5 cR h0 h1 h2 h3 h4 h5 e1 e2 e9
  go_wp2_with (first
    | (go_at_call 19; (with_reducible refine (on_nil _).mono ?_); rintro e w13 ⟨rfl, rfl⟩)
    | (go_at_call 18; (refine (list_nil _ k0).mono ?_); rintro e w12 ⟨rfl, f12⟩)
    | (go_at_call 24; (with_reducible refine (steps_nil _).mono ?_); rintro e w11 ⟨rfl, rfl⟩)
    | (go_at_call 15; (with_reducible refine (used_nil _).mono ?_); rintro e w11 ⟨rfl, rfl⟩)
    | (go_at_call 21; (with_reducible refine (cM _).mono ?_); rintro e w10 ⟨rfl, f10⟩)
    | (go_at_call 22; (with_reducible refine (cN _).mono ?_); rintro e w9 ⟨rfl, f9⟩)
    | (go_at_call 12; (with_reducible refine (cS _).mono ?_); rintro e w8 ⟨rfl, f8⟩)
    | (go_at_call 11; (with_reducible refine (cA _ _ _ _).mono ?_); rintro e w7 ⟨rfl, f7⟩)
    | (go_at_call 9; (with_reducible refine (awake_any w5).mono ?_); rintro e w6 ⟨rfl, f6⟩))
  go_ret
  have g6 := F6.trans (f6.mono F6.size (by simp))
  have g7 := g6.trans (f7.mono g6.size (by simp))
  have a7 := g7.alloc g7.size (.cells #[.string s] 9)
  have g8 := a7.trans (f8.mono a7.size (by simp))
  have g9 := g8.trans (f9.mono g8.size (by simp))
  have a9 := g9.alloc g9.size (.cells #[.string s] 9)
  have g10 := a9.trans (f10.mono a9.size (by simp))
  exact ⟨rfl, g10.trans (f12.mono g10.size (by simp))⟩
end Go.Proofs.Ytcfbbembggnanaa
