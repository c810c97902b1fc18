/- store.Join, cell.of, state.cell at what has nothing. -/
import Derived.Test.YtcemlacfldonlaaQuoJoin
import Derived.Test.YtcemlacfldonlaaClkNorm
namespace Go.Proofs.Ytcemlacfldonlaa
open Go.RowKit
open Ck
set_option linter.unusedSimpArgs false
theorem clk_nil (w : World) (A : Option Addr) (c : Nat) : ClkIn w (.slice A 0 c) [] := ⟨A, c, rfl, .inl rfl⟩
theorem ckNorm_nil (w : World) (A : Option Addr) (c : Nat) : Calls Try.prog 34 #[.slice A 0 c] w fun e w' => (∃ A' c', e = .returned (.slice A' 0 c')) ∧ Fr w.heap.size [] w w' :=
  (norm_any w (.slice A 0 c) [] (by simp) (clk_nil w A c)).mono fun e w' ⟨⟨v, out, h1, h2, h3, h4⟩, hf⟩ => by
    have h0 : out.length = 0 := Nat.le_zero.1 (by simpa using h4)
    obtain ⟨A1, c1, rfl⟩ := own_len1 h2
    rw [h0] at h1
    exact ⟨⟨A1, c1, h1⟩, hf⟩
theorem ckMerge_at (w : World) (A B : Option Addr) (c d : Nat) : Calls Try.prog 29 #[.slice (some ⟨w.heap.size, 0, none⟩) 2 2] (w.alloc (.cells #[.slice A 0 c, .slice B 0 d] 31)) fun e w' => (∃ A' c', e = .returned (.slice A' 0 c')) ∧ Fr (w.alloc (.cells #[.slice A 0 c, .slice B 0 d] 31)).heap.size [] (w.alloc (.cells #[.slice A 0 c, .slice B 0 d] 31)) w' := by
  have hC := clks_new (w := w) (vs := [.slice A 0 c, .slice B 0 d]) (L := [[], []]) rfl (fun j u es hu he => by
    rcases j with _ | _ | j
    · simp at hu he; subst hu he; exact clk_nil w A c
    · simp at hu he; subst hu he; exact clk_nil w B d
    · simp at hu)
  have hm := merge_any _ _ _ _ [[], []] (by simp) (by simp) (by simp) hC
  exact hm.mono fun e w' ⟨⟨v, out, h1, h2, h3, h4⟩, hf⟩ => by
    have h0 : out.length = 0 := Nat.le_zero.1 (by simpa using h4)
    obtain ⟨A1, c1, rfl⟩ := own_len1 h2
    rw [h0] at h1
    exact ⟨⟨A1, c1, h1⟩, hf⟩
theorem SJ.set0 {w W : World} (h : SJ w W) : SJ w ((W.setCell ⟨w.heap.size + 1 + 1, 0, none⟩ (.slice none 0 0)).setCell ⟨w.heap.size + 1 + 1, 1, none⟩ (.slice none 0 0)) :=
  sj_of ⟨(h.1.fr.setCell (.inr (Nat.le_trans (Nat.le_succ _) (Nat.le_succ _))) _).setCell (.inr (Nat.le_trans (Nat.le_succ _) (Nat.le_succ _))) _, (h.1.one.far (by simp; omega) _).far (by simp; omega) _, (h.1.two.far (by simp) _).far (by simp) _⟩ ((h.has.set 0 (.slice none 0 0)).set 1 (.slice none 0 0))
abbrev SK (w W : World) : Prop := TwoS w.heap.size w.heap.size (w.heap.size + 1) w W ∧ W.cell? ⟨w.heap.size, 0, none⟩ = some (.slice none 0 0) ∧ W.cell? ⟨w.heap.size, 1, none⟩ = some (.slice none 0 0) ∧ W.cell? ⟨w.heap.size + 1, 0, none⟩ = some (.slice none 0 0) ∧ W.cell? ⟨w.heap.size + 1, 1, none⟩ = some (.slice none 0 0) ∧ Has W (w.heap.size + 1 + 1) 35 [.slice none 0 0, .slice none 0 0] ∧ W.cell? ⟨w.heap.size + 1 + 1, 0, none⟩ = some (.slice none 0 0) ∧ W.cell? ⟨w.heap.size + 1 + 1, 1, none⟩ = some (.slice none 0 0) ∧ W.frozen? ⟨w.heap.size + 1 + 1, 0, none⟩ = false ∧ W.frozen? ⟨w.heap.size + 1 + 1, 1, none⟩ = false
theorem SJ.sk {w W : World} (h : SJ w W) : SK w W := ⟨h.1, h.2.1, h.2.2.1, h.2.2.2.1, h.2.2.2.2.1, h.2.2.2.2.2, h.has.cell 0, h.has.cell 1, h.has.frozen 0, h.has.frozen 1⟩
theorem SK.sj {w W : World} (h : SK w W) : SJ w W := sj_of h.1 h.2.2.2.2.2.1
theorem sk_step {w W W' : World} (f : Fr W.heap.size [] W W') (h : SK w W) : SK w W' := (sj_step f h.sj).sk
theorem SK.set0 {w W : World} (h : SK w W) : SK w ((W.setCell ⟨w.heap.size + 1 + 1, 0, none⟩ (.slice none 0 0)).setCell ⟨w.heap.size + 1 + 1, 1, none⟩ (.slice none 0 0)) := h.sj.set0.sk
section
variable (w : World)
set_option maxHeartbeats 10000000
set_option maxRecDepth 100000
theorem Join_nil (A B : Option Addr) (c d : Nat) : Calls Try.prog 30 #[.agg #[.slice none 0 0, .slice none 0 0], .slice A 0 c, .agg #[.slice none 0 0, .slice none 0 0], .slice B 0 d] w fun e w' => e = .returned (.agg #[.slice none 0 0, .slice none 0 0]) ∧ Fr w.heap.size [] w w' := by
  have V1 := ((Has.new w 35 [.slice none 0 0, .slice none 0 0]).alloc (.cells #[.slice none 0 0, .slice none 0 0] 35)).alloc (.cells #[.slice none 0 0, .slice none 0 0] 35)
  have V2 := (Has.new (w.alloc (.cells #[.slice none 0 0, .slice none 0 0] 35)) 35 [.slice none 0 0, .slice none 0 0]).alloc (.cells #[.slice none 0 0, .slice none 0 0] 35)
  rw [show (w.alloc (.cells #[.slice none 0 0, .slice none 0 0] 35)).heap.size = w.heap.size + 1 by simp] at V2
  have f1 := (((Fr.refl w.heap.size [] w).alloc (Nat.le_refl _) (.cells #[.slice none 0 0, .slice none 0 0] 35)).alloc (by simp) (.cells #[.slice none 0 0, .slice none 0 0] 35)).alloc (by simp; omega) (.cells #[.slice none 0 0, .slice none 0 0] 35)
  go_enter Try.func30, Try.ntmps30
  go_upto_region 1 with fail
  have V0 : Has (((w.alloc (.cells #[.slice none 0 0, .slice none 0 0] 35)).alloc (.cells #[.slice none 0 0, .slice none 0 0] 35)).alloc (.cells #[.slice none 0 0, .slice none 0 0] 35)) (w.heap.size + 1 + 1) 35 [.slice none 0 0, .slice none 0 0] := Has.new' _ _ _ (by simp)
  obtain ⟨W0, hW0⟩ : ∃ W0, W0 = ((w.alloc (.cells #[.slice none 0 0, .slice none 0 0] 35)).alloc (.cells #[.slice none 0 0, .slice none 0 0] 35)).alloc (.cells #[.slice none 0 0, .slice none 0 0] 35) := ⟨_, rfl⟩
  rw [← hW0] at V1 V2 V0 f1 ⊢
  clear hW0
  have T : SK w W0.drew := SJ.sk (sj_of ⟨f1.drew, V1, V2⟩ V0)
  clear V1 V2 f1 V0
  go_region_held3 (fun W => TwoS w.heap.size w.heap.size (w.heap.size + 1) w W ∧ W.cell? ⟨w.heap.size, 0, none⟩ = some (.slice none 0 0) ∧ W.cell? ⟨w.heap.size, 1, none⟩ = some (.slice none 0 0) ∧ W.cell? ⟨w.heap.size + 1, 0, none⟩ = some (.slice none 0 0) ∧ W.cell? ⟨w.heap.size + 1, 1, none⟩ = some (.slice none 0 0) ∧ Has W (w.heap.size + 1 + 1) 35 [.slice none 0 0, .slice none 0 0] ∧ W.cell? ⟨w.heap.size + 1 + 1, 0, none⟩ = some (.slice none 0 0) ∧ W.cell? ⟨w.heap.size + 1 + 1, 1, none⟩ = some (.slice none 0 0) ∧ W.frozen? ⟨w.heap.size + 1 + 1, 0, none⟩ = false ∧ W.frozen? ⟨w.heap.size + 1 + 1, 1, none⟩ = false)
    (first
      | assumption
      | exact sk_step (by assumption) (by assumption)
      | exact SK.set0 (by assumption))
    (first
      | (go_at_call 40; (with_reducible refine (join_nil _ _ _ _ _ _ _).mono ?_); rintro e w5 ⟨rfl, f5⟩)
      | (go_at_call 33; (with_reducible refine (Norm_nil _).mono ?_); rintro e w5 ⟨rfl, f5⟩)
      | (go_at_call 34; (with_reducible refine (ckNorm_nil _ _ _).mono ?_); rintro e w5 ⟨⟨A5, c5, rfl⟩, f5⟩))
  all_goals (
    rename_i hh
    go_wp2
    obtain ⟨T9, -, -, -, -, V9, q0, q1, -, -⟩ := hh
    refine bodyPost_ret (v := .agg #[.slice none 0 0, .slice none 0 0]) (by simp [results, Try.results30, go_sem, q0, q1]) rfl ⟨rfl, T9.fr⟩)
end
end Go.Proofs.Ytcemlacfldonlaa
