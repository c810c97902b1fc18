/- WheelNil: the walk. -/
import Derived.Test.YtkclpkepmckjgaaWhlAwake
namespace Go.Proofs.Ytkclpkepmckjgaa
open Go.RowKit Go.Maps Go.Sort Go.Shelf
open Wh
def Wh.keyB (s : ByteArray) (h : s.size ≤ maxLen) : Key := ⟨s.data.toList, by rw [Array.length_toList]; exact h⟩
theorem KV_keyB (s : ByteArray) (h : s.size ≤ maxLen) : KV (keyB s h) = .string s := by simp [KV, keyB, encStr]
theorem at_zero (w : World) : WAt w.heap.size [] w (w.alloc (.cells #[.map none, .int .i64 0] 49)) w.heap.size 0 [] :=
  ⟨[w.heap.size], [], [], ⟨⟨.map none, Has.new w _ [.map none, .int .i64 0], .inl ⟨rfl, rfl⟩⟩, by simp, by simp⟩, Ord.nil 0, rfl, by simp, by simp, (Fr.refl _ _ _).alloc (Nat.le_refl _) _⟩
set_option maxHeartbeats 4000000 in
theorem nil_law (w : World) (a : Int) (s : ByteArray) (hs : s.size ≤ maxLen) : Calls Try.prog 5 #[.int .i64 a, .string s] w fun e w' => e = .returned (.bool true) ∧ Fr w.heap.size [] w w' := by
  obtain ⟨k, hKV⟩ : ∃ k : Key, KV k = .string s := ⟨keyB s hs, KV_keyB s hs⟩
  have e1 : setV a [] [k] = [(k, a)] := by simp [setV, set1, cut1]
  have e2 : dueR a [(k, a)].length [(k, a)] = [k] := by simp [dueR, nextR]
  have h0 := at_zero w
  have c2 := fun W => wat_nil W k
  simp only [hKV] at c2
  go_enter Try.func5, Try.ntmps5
  go_upto_region 4 with (go_at_call 13; (refine (wset_nil _ a _ _ _).mono ?_); rintro e w1 ⟨rfl, rfl⟩)
  have h1 := h0.alloc (.cells #[.string s] 9)
  go_upto_region 5 with (go_at_call 15; (refine (wnext_nil _).mono ?_); rintro e w2 ⟨rfl, f2⟩)
  obtain ⟨h2, -⟩ := h1.fr f2
  go_upto_region 6 with (go_at_call 18; (refine (c2 _).mono ?_); rintro e w3 ⟨rfl, rfl⟩)
  have c3 := at_set_lit h2 a [k] 1 (by decide) (by simp)
  rw [e1] at c3
  simp only [List.map_cons, List.map_nil, hKV, List.length_cons, List.length_nil] at c3
  go_upto_region 7 with (go_at_call 13; (refine c3.mono ?_); rintro e w3 ⟨rfl, h3, -⟩)
  have e3 : ([k].length : Int) = 1 := rfl
  go_wp2_with (first
    | (go_at_call 10; (with_reducible refine c8.mono ?_); rintro e w9 ⟨A, c, rfl, o9, h9, -⟩)
    | (go_at_call 17; (with_reducible refine (at_len h7).mono ?_); rintro e w8 ⟨rfl, rfl⟩; have c8 := at_due h7 (by simp) a; rw [e2] at c8)
    | (go_at_call 10; (with_reducible refine (wdue_nil _ a).mono ?_); rintro e w7 ⟨rfl, f7⟩; obtain ⟨h7, -⟩ := h5.fr f7)
    | (go_at_call 17; (with_reducible refine (wlen_nil _).mono ?_); rintro e w6 ⟨rfl, rfl⟩)
    | (go_at_call 9; (with_reducible refine (wcancel_nil _ _ _ _).mono ?_); rintro e w5 ⟨rfl, rfl⟩)
    | (go_at_call 6; (with_reducible refine (awake_any w3).mono ?_); rintro e w4 ⟨rfl, f4⟩; obtain ⟨h4, -⟩ := h3.fr f4; have h5 := h4.alloc (.cells #[.string s] 9)))
  go_ret
  exact ⟨rfl, h9.frame⟩
end Go.Proofs.Ytkclpkepmckjgaa
