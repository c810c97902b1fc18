/- Got: the target's cell is written. -/
import Derived.Test.YtcemlacfldonlaaQuoRead
namespace Go.Proofs.Ytcemlacfldonlaa
open Go.RowKit
theorem flat_setC (what : Option Nat) : ∀ (L : List Tg) (k : Nat) (hk : k < L.length), (L.flatMap Tg.cells).set (k * 4 + 3) (.pointer (pcV what)) = (L.set k { L[k] with cell := what }).flatMap Tg.cells
  | [], k, hk => by simp at hk
  | x :: L, 0, _ => rfl
  | x :: L, k + 1, hk => by
    have := flat_setC what L k (by simpa using hk)
    rw [List.flatMap_cons, List.set_cons_succ, List.flatMap_cons, List.getElem_cons_succ, ← this]
    have hl : x.cells.length = 4 := rfl
    rw [List.set_append_right _ _ (by rw [hl]; omega), hl, show (k + 1) * 4 + 3 - 4 = k * 4 + 3 by omega]
section
variable {w : World} {g ty : Nat} {F : List Nat} {need prime : Int} {L : List Tg}
/-- One target's cell is written. -/
theorem TyIs.writeC {A : Option Addr} {c : Nat} (h : TyIs w g ty F need prime L) (h1 : Has w g ty [.slice A L.length c, .int .i64 need, .int .i64 prime]) {k : Nat} (hk : k < L.length) {blk o : Nat} (hA : A = some ⟨blk, o, none⟩) (what : Option Nat) :
    o = 0 ∧ w.frozen? ⟨blk, k * 4 + 3, none⟩ = false ∧ TyIs (w.setCell ⟨blk, k * 4 + 3, none⟩ (.pointer (pcV what))) g ty F need prime (L.set k { L[k] with cell := what }) ∧ One blk w (w.setCell ⟨blk, k * 4 + 3, none⟩ (.pointer (pcV what))) ∧ blk ∈ F := by
  obtain ⟨A', c', h1', h2, h3⟩ := h.ex
  have e := h1.cell 0
  rw [h1'.cell 0] at e
  simp only [List.getElem?_cons_zero, Option.some.injEq, Value.slice.injEq, true_and] at e
  obtain ⟨rfl, rfl⟩ := e
  subst hA
  have hlen := h2.1
  rcases h2.2 with ⟨h0, _⟩ | ⟨g2, cap, cur, he, hb, hg, hn, hcm, hcs, htk⟩
  · cases h0
  · injection he with e1 e2 e3
    injection e1 with e1
    injection e1 with e4 e5
    subst e4 e5 e3
    have hH : Has w blk 62 cur.toList := by unfold Has; rw [hg]
    obtain ⟨m1, m2⟩ := h3 blk 0 rfl
    have o1 := (One.refl blk w).setCell (k * 4 + 3) (.pointer (pcV what))
    refine ⟨rfl, hH.frozen _, ⟨⟨some ⟨blk, 0, none⟩, c', ?_, ⟨?_, .inr ⟨blk, c', (cur.toList.set (k * 4 + 3) (.pointer (pcV what))).toArray, ?_, Nat.zero_le _, ?_, ?_, hcm, ?_, ?_⟩⟩, ?_⟩, h.self, fun q hq => by rw [o1.size]; exact h.lt q hq⟩, o1, m1⟩
    · rw [List.length_set]; exact h1.one o1 (Ne.symm m2)
    · rw [List.length_set, ← flat_setC what L k hk, List.length_set]; exact hlen
    · rw [List.length_set]
    · exact hH.set (k * 4 + 3) (.pointer (pcV what))
    · rw [List.length_set]; exact hn
    · simpa using hcs
    · rw [List.length_set, ← flat_setC what L k hk, ← htk]
      simp only [List.take_set]
    · intro b o e; injection e with e; injection e with e1 e2; subst e1; exact ⟨m1, m2⟩
set_option maxRecDepth 100000 in
set_option maxHeartbeats 2000000 in
/-- Got of a node that is open: what stands at its place then. -/
theorem got_any (h : TyIs w g ty F need prime L) (hl : L.length ≤ 1000000000) (hn : (L.map Tg.node).Nodup) (n : Int) (hany : L.any (newB n) = true) (c0 : Int) :
    Calls Try.prog 12 #[.pointer (some ⟨g, 0, none⟩), .int .i64 n, .agg #[.int .i64 c0, .slice none 0 0, .slice none 0 0, .slice none 0 0]] w fun e w' => e = .returned (.bool true) ∧ ∃ (k : Nat) (hk : k < (sayL 1 n L).length), (sayL 1 n L)[k].node = n ∧
      TyIs w' g ty F need prime ((sayL 1 n L).set k { (sayL 1 n L)[k] with cell := some w.heap.size }) ∧ Has w' w.heap.size 37 [.int .i64 c0, .slice none 0 0, .slice none 0 0, .slice none 0 0] ∧ Fr w.heap.size F w w' := by
  have f1 := (Fr.refl w.heap.size [] w).alloc (Nat.le_refl _) (.cells #[.int .i64 c0, .slice none 0 0, .slice none 0 0, .slice none 0 0] 37)
  have V := Has.new w 37 [.int .i64 c0, .slice none 0 0, .slice none 0 0, .slice none 0 0]
  have T1 := h.fr0 f1
  have hN := none_any T1 hl hn n
  rw [hany] at hN
  have hlen := say_len 1 n L
  have hnod := say_nodes 1 n L
  have hex : ∃ x ∈ sayL 1 n L, x.node = n := by
    obtain ⟨x, hx, hb⟩ := List.any_eq_true.1 hany
    refine ⟨_, List.mem_map.2 ⟨x, hx, rfl⟩, ?_⟩
    rw [if_pos hb]
    unfold newB at hb
    simp at hb
    exact hb.1
  obtain ⟨L', hL'⟩ : ∃ L', sayL 1 n L = L' := ⟨_, rfl⟩
  rw [hL'] at hN hlen hex ⊢
  have hF : w.heap.size ∉ F := fun hm => by have := h.lt _ hm; omega
  clear hL' hany hnod
  go_enter Try.func12, Try.ntmps12
  go_upto_region 3 with (go_at_call 14; (with_reducible refine hN.mono ?_); rintro e w2 ⟨rfl, T2, f2⟩)
  obtain ⟨A, c, r1, r2, r3⟩ := T2.row
  have hf := find_any r1 r2 (by omega) n
  have V2 := V.fr f2 V.lt hF
  have f12 : Fr w.heap.size F w w2 := (f1.mono (Nat.le_refl _) (by simp)).trans (f2.mono f1.size fun _ h _ => h)
  clear hN
  have hf2 : Calls Try.prog 16 #[.pointer (some ⟨g, 0, none⟩), .int .i64 n] w2 fun e w' => ∃ (k : Nat) (hk : k < L'.length) (blk : Nat), e = .returned (.pointer (some ⟨blk, k * 4, none⟩)) ∧ L'[k].node = n ∧ TyIs (w'.setCell ⟨blk, k * 4 + 3, none⟩ (.pointer (some ⟨w.heap.size, 0, none⟩))) g ty F need prime (L'.set k { L'[k] with cell := some w.heap.size }) ∧ One blk w' (w'.setCell ⟨blk, k * 4 + 3, none⟩ (.pointer (some ⟨w.heap.size, 0, none⟩))) ∧ blk ∈ F ∧ w'.frozen? ⟨blk, k * 4 + 3, none⟩ = false ∧ w'.cell? ⟨blk, k * 4 + 3, none⟩ = some (.pointer (pcV L'[k].cell)) ∧ Fr w2.heap.size [] w2 w' := by
    refine hf.mono ?_
    rintro e w3 ⟨v, rfl, hv, f3⟩
    rcases hv with ⟨hno, rfl⟩ | ⟨k, hk, blk, o, rfl, rfl, hk1, hbef⟩
    · obtain ⟨x, hx, he⟩ := hex
      exact absurd he (hno x hx)
    · obtain ⟨rfl, z3, T3, o3, m3⟩ := (T2.fr0 f3).writeC (r1.fr f3 r1.lt (by simp)) hk rfl (some w.heap.size)
      obtain ⟨blk', o', hA', hb', d0, d1, d2, d3⟩ := tg_cells (r2.fr f3 (Nat.le_refl _) (by simp)) k hk
      injection hA' with hA'
      injection hA' with hA1 hA2
      subst hA1 hA2
      rw [Nat.zero_add] at d3
      exact ⟨k, hk, blk, by rw [Nat.zero_add], hk1, T3, o3, m3, z3, d3, f3⟩
  clear hf
  go_wp2_with (go_at_call 16; (with_reducible refine hf2.mono ?_); rintro e w3 ⟨k, hk, blk, rfl, hk1, T3, o3, m3, z3, d3, f3⟩)
  go_ret
  have V3 := V2.fr f3 V2.lt (by simp)
  have hne : w.heap.size ≠ blk := fun e => hF (e ▸ m3)
  exact ⟨rfl, k, hk, hk1, T3, V3.one o3 hne, (f12.trans (f3.mono f12.size (by simp))).one o3 (.inl m3)⟩
end
end Go.Proofs.Ytcemlacfldonlaa
