/- Read.Cell of a tally whose first target alone has a cell, one that has nothing. -/
import Derived.Test.YtcemlacfldonlaaQuoCSame
import Derived.Test.YtcemlacfldonlaaQuoGot
namespace Go.Proofs.Ytcemlacfldonlaa
open Go.RowKit
open Ck
set_option linter.unusedSimpArgs false
abbrev SF (w : World) (b7 bx : Nat) (t : Tg) (k : Int) (A : Option Addr) (c : Nat) (W : World) : Prop := Fr w.heap.size [] w W ∧ Has W b7 62 [.int .i64 t.node, .int .i64 t.home, .int .i64 t.said, .pointer (some ⟨bx, 0, none⟩)] ∧ Has W bx 37 [.int .i64 k, .slice A 0 c, .slice none 0 0, .slice none 0 0] ∧ W.cell? ⟨b7, 3, none⟩ = some (.pointer (some ⟨bx, 0, none⟩)) ∧ W.cell? ⟨bx, 0, none⟩ = some (.int .i64 k) ∧ W.cell? ⟨bx, 1, none⟩ = some (.slice A 0 c) ∧ W.cell? ⟨bx, 2, none⟩ = some (.slice none 0 0) ∧ W.cell? ⟨bx, 3, none⟩ = some (.slice none 0 0)
section
variable {w W W' : World} {b7 bx : Nat} {t : Tg} {k : Int} {A : Option Addr} {c : Nat}
theorem sf_of (f : Fr w.heap.size [] w W) (h : Has W b7 62 [.int .i64 t.node, .int .i64 t.home, .int .i64 t.said, .pointer (some ⟨bx, 0, none⟩)]) (g : Has W bx 37 [.int .i64 k, .slice A 0 c, .slice none 0 0, .slice none 0 0]) : SF w b7 bx t k A c W := ⟨f, h, g, h.cell 3, g.cell 0, g.cell 1, g.cell 2, g.cell 3⟩
theorem sf_step (f : Fr W.heap.size [] W W') (h : SF w b7 bx t k A c W) : SF w b7 bx t k A c W' := sf_of (h.1.trans (f.mono h.1.size (by simp))) (h.2.1.fr f h.2.1.lt (by simp)) (h.2.2.1.fr f h.2.2.1.lt (by simp))
theorem sf_set (h : SF w b7 bx t k A c W) {b : Nat} (h7 : b7 ≠ b) (hx : bx ≠ b) (hb : w.heap.size ≤ b) (i : Nat) (v : Value) : SF w b7 bx t k A c (W.setCell ⟨b, i, none⟩ v) := sf_of (h.1.setCell (.inr hb) v) (h.2.1.far h7 v) (h.2.2.1.far hx v)
theorem sf_set4 (h : SF w b7 bx t k A c W) {b : Nat} (h7 : b7 ≠ b) (hx : bx ≠ b) (hb : w.heap.size ≤ b) (v0 v1 v2 v3 : Value) : SF w b7 bx t k A c ((((W.setCell ⟨b, 0, none⟩ v0).setCell ⟨b, 1, none⟩ v1).setCell ⟨b, 2, none⟩ v2).setCell ⟨b, 3, none⟩ v3) := sf_set (sf_set (sf_set (sf_set h h7 hx hb 0 v0) h7 hx hb 1 v1) h7 hx hb 2 v2) h7 hx hb 3 v3
end
section
variable (w : World)
set_option maxHeartbeats 10000000
set_option maxRecDepth 100000
theorem qCell_one {g ty cp : Nat} {AA : Option Addr} {L : List Tg} {rest : List Value} (h : Has w g ty (.slice AA L.length cp :: rest)) (hA : ARow w w.heap.size AA (L.flatMap Tg.cells)) (hl : L.length ≤ 1000000000) (h0 : 0 < L.length) (bx : Nat) (hx0 : L[0].cell = some bx) (hno : ∀ (j : Nat) (hj : j < L.length), 0 < j → L[j].cell = none) (k : Int) (A : Option Addr) (c : Nat) (hX : Has w bx 37 [.int .i64 k, .slice A 0 c, .slice none 0 0, .slice none 0 0]) :
    Calls Try.prog 19 #[.pointer (some ⟨g, 0, none⟩)] w fun e w' => (∃ A' c', e = .returned (.tuple #[.agg #[.int .i64 k, .slice A' 0 c', .slice none 0 0, .slice none 0 0], .bool true])) ∧ Fr w.heap.size [] w w' := by
  have c0 : w.cell? ⟨g, 0, none⟩ = some (.slice AA L.length cp) := h.cell 0
  have V1 := (Has.new w 37 [.int .i64 0, .slice none 0 0, .slice none 0 0, .slice none 0 0]).alloc (.cells #[.int .i64 0, .slice none 0 0, .slice none 0 0, .slice none 0 0] 37)
  have V2 : Has ((w.alloc (.cells #[.int .i64 0, .slice none 0 0, .slice none 0 0, .slice none 0 0] 37)).alloc (.cells #[.int .i64 0, .slice none 0 0, .slice none 0 0, .slice none 0 0] 37)) (w.heap.size + 1) 37 [.int .i64 0, .slice none 0 0, .slice none 0 0, .slice none 0 0] := Has.new' (w.alloc (.cells #[.int .i64 0, .slice none 0 0, .slice none 0 0, .slice none 0 0] 37)) _ _ (by simp)
  have f1 := ((Fr.refl w.heap.size [] w).alloc (Nat.le_refl _) (.cells #[.int .i64 0, .slice none 0 0, .slice none 0 0, .slice none 0 0] 37)).alloc (by simp) (.cells #[.int .i64 0, .slice none 0 0, .slice none 0 0, .slice none 0 0] 37)
  have c1 := (f1.cell (p := ⟨g, 0, none⟩) h.lt (by simp)).trans c0
  go_enter Try.func19, Try.ntmps19
  go_wp2
  go_loopw [5, 17] (fun s i wr => ∃ q : Nat, q ≤ L.length ∧ i = .int .i64 (q : Int) ∧ Fr w.heap.size [] w wr ∧ Has wr w.heap.size 37 [.int .i64 0, .slice none 0 0, .slice none 0 0, .slice none 0 0] ∧ ((q = 0 ∧ s = .bool false ∧ Has wr (w.heap.size + 1) 37 [.int .i64 0, .slice none 0 0, .slice none 0 0, .slice none 0 0]) ∨ (1 ≤ q ∧ s = .bool true ∧ ∃ A c, Has wr (w.heap.size + 1) 37 [.int .i64 k, .slice A 0 c, .slice none 0 0, .slice none 0 0]))) (fun _ i _ => L.length - (intOf i).toNat)
  case atStart => exact ⟨0, by omega, rfl, f1, V1, .inl ⟨rfl, rfl, V2⟩⟩
  case round =>
    obtain ⟨q, hq, rfl, hF, V1, hs⟩ := hrel
    by_cases hlt : q < L.length
    · have hki : (q : Int) < L.length := by omega
      obtain ⟨t, ht⟩ : ∃ t, Hid (t = L[q]'hlt) := ⟨L[q]'hlt, rfl⟩
      obtain ⟨blk, o, rfl, hb1, d0, d1, d2, d3⟩ := tg_cells (hA.fr hF (Nat.le_refl _) (by simp)) q hlt
      rw [← ht.out] at d0 d1 d2 d3
      rcases hs with ⟨hq0, rfl, V2⟩ | ⟨hq1, rfl, A1, a1, V2⟩
      · have htc : t.cell = some bx := by rw [ht.out]; subst hq0; exact hx0
        clear hq0
        rw [htc] at d3
        simp only [pcV] at d3
        have V := V2.alloc (.cells #[.int .i64 t.node, .int .i64 t.home, .int .i64 t.said, .pointer (some ⟨bx, 0, none⟩)] 62)
        have V7 := Has.new wr 62 [.int .i64 t.node, .int .i64 t.home, .int .i64 t.said, .pointer (some ⟨bx, 0, none⟩)]
        have v3 := V7.cell 3
        have hsz := V2.lt
        have h7 : wr.heap.size ≠ w.heap.size + 1 := by omega
        have hx : bx ≠ w.heap.size + 1 := by have := hX.lt; omega
        have T : SF w wr.heap.size bx t k A c (wr.alloc (.cells #[.int .i64 t.node, .int .i64 t.home, .int .i64 t.said, .pointer (some ⟨bx, 0, none⟩)] 62)).drew := sf_of (hF.alloc hF.size _).drew V7 ((hX.fr hF hX.lt (by simp)).alloc _)
        have hR : w.heap.size ≤ w.heap.size + 1 := Nat.le_succ _
        go_wp2
        replace V := V.drew
        go_region_held3 (fun W => Fr w.heap.size [] w W ∧ Has W wr.heap.size 62 [.int .i64 t.node, .int .i64 t.home, .int .i64 t.said, .pointer (some ⟨bx, 0, none⟩)] ∧ Has W bx 37 [.int .i64 k, .slice A 0 c, .slice none 0 0, .slice none 0 0] ∧ W.cell? ⟨wr.heap.size, 3, none⟩ = some (.pointer (some ⟨bx, 0, none⟩)) ∧ W.cell? ⟨bx, 0, none⟩ = some (.int .i64 k) ∧ W.cell? ⟨bx, 1, none⟩ = some (.slice A 0 c) ∧ W.cell? ⟨bx, 2, none⟩ = some (.slice none 0 0) ∧ W.cell? ⟨bx, 3, none⟩ = some (.slice none 0 0))
          (first
            | with_reducible assumption
            | (with_reducible exact sf_step (by with_reducible assumption) (by with_reducible assumption))
            | (with_reducible refine sf_set4 ?_ h7 hx hR _ _ _ _; (with_reducible assumption)))
          (first
            | (go_at_call 24; (with_reducible refine (cJoin_nil _ _ _ _ _ _).mono ?_); rintro e w7 ⟨⟨A7, c7, rfl⟩, f7⟩; have V := V.fr f7 V.lt List.not_mem_nil; have v0 := V.cell 0; have z0 := V.frozen 0; have v1 := V.cell 1; have z1 := V.frozen 1; have v2 := V.cell 2; have z2 := V.frozen 2; have v3 := V.cell 3; have z3 := V.frozen 3))
        rename_i hh
        go_wp2
        have V3 := ((V1.alloc (.cells #[.int .i64 t.node, .int .i64 t.home, .int .i64 t.said, .pointer (some ⟨bx, 0, none⟩)] 62)).drew).fr f7 ((V1.alloc (.cells #[.int .i64 t.node, .int .i64 t.home, .int .i64 t.said, .pointer (some ⟨bx, 0, none⟩)] 62)).drew).lt List.not_mem_nil
        exact ⟨⟨q + 1, by omega, by go_num, hh.1, far4 V3 (by omega) _ _ _ _, .inr ⟨by omega, rfl, A7, c7, has4 V _ _ _ _⟩⟩, by simp [intOf]; omega⟩
      · have htc : t.cell = none := by rw [ht.out]; exact hno q hlt hq1
        rw [htc] at d3
        simp only [pcV] at d3
        have v3 := (Has.new wr 62 [.int .i64 t.node, .int .i64 t.home, .int .i64 t.said, .pointer none]).cell 3
        go_wp2
        exact ⟨⟨q + 1, by omega, by go_num, hF.alloc hF.size _, V1.alloc _, .inr ⟨by omega, rfl, A1, a1, V2.alloc _⟩⟩, by simp [intOf]; omega⟩
    · obtain rfl : q = L.length := by omega
      have hki : ¬ ((L.length : Int) < L.length) := by omega
      rcases hs with ⟨h1, _⟩ | ⟨hq1, rfl, A1, a1, V2⟩
      · omega
      have e0 := V2.cell 0
      have e1 := V2.cell 1
      have e2 := V2.cell 2
      have e3 := V2.cell 3
      have v0 := V1.cell 0
      have v1 := V1.cell 1
      have v2 := V1.cell 2
      have v3 := V1.cell 3
      have z0 := V1.frozen 0
      have z1 := V1.frozen 1
      have z2 := V1.frozen 2
      have z3 := V1.frozen 3
      go_wp2
      have V9 := has4 V1 (.int .i64 k) (.slice A1 0 a1) (.slice none 0 0) (.slice none 0 0)
      have q0 := V9.cell 0
      have q1 := V9.cell 1
      have q2 := V9.cell 2
      have q3 := V9.cell 3
      have hf9 : Fr w.heap.size [] w ((((wr.setCell ⟨w.heap.size, 0, none⟩ (.int .i64 k)).setCell ⟨w.heap.size, 1, none⟩ (.slice A1 0 a1)).setCell ⟨w.heap.size, 2, none⟩ (.slice none 0 0)).setCell ⟨w.heap.size, 3, none⟩ (.slice none 0 0)) := (((hF.setCell (.inr (Nat.le_refl _)) _).setCell (.inr (Nat.le_refl _)) _).setCell (.inr (Nat.le_refl _)) _).setCell (.inr (Nat.le_refl _)) _
      refine bodyPost_ret (v := .tuple #[.agg #[.int .i64 k, .slice A1 0 a1, .slice none 0 0, .slice none 0 0], .bool true]) (by simp [results, Try.results19, go_sem, q0, q1, q2, q3]) rfl ⟨⟨A1, a1, rfl⟩, hf9⟩
end
end Go.Proofs.Ytcemlacfldonlaa
