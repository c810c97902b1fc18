/- Repairs of a tally whose first target alone has a cell, one that has nothing. -/
import Derived.Test.YtcemlacfldonlaaQuoRCell
import Derived.BigQuiet
namespace Go.Proofs.Ytcemlacfldonlaa
open Go.RowKit
open Ck
set_option linter.unusedSimpArgs false
def repB (t : Tg) : Bool := decide (t.said = 1) && t.cell.isNone
theorem infoI : (Try.prog.info? 3).map (fun i => (i.zero, i.size, i.bytes)) = some (some (.int .i64 0), 1, 8) := by kernel_rfl
theorem rep_step (L : List Tg) (q : Nat) (hq : q < L.length) : (L.take (q + 1)).filter repB = (L.take q).filter repB ++ if repB L[q] = true then [L[q]] else [] := by
  rw [List.take_succ_eq_append_getElem hq, List.filter_append]
  congr 1
  by_cases h : repB L[q] = true <;> simp [h]
abbrev SG (w : World) (b7 bx b4 : Nat) (t : Tg) (k : Int) (A : Option Addr) (c : Nat) (A' : Option Addr) (c' : Nat) (W : World) : Prop := Fr w.heap.size [] w W ∧ Has W b7 62 [.int .i64 t.node, .int .i64 t.home, .int .i64 1, .pointer (some ⟨bx, 0, none⟩)] ∧ Has W bx 37 [.int .i64 k, .slice A 0 c, .slice none 0 0, .slice none 0 0] ∧ Has W b4 37 [.int .i64 k, .slice A' 0 c', .slice none 0 0, .slice none 0 0] ∧ W.cell? ⟨b7, 2, none⟩ = some (.int .i64 1) ∧ W.cell? ⟨b7, 3, none⟩ = some (.pointer (some ⟨bx, 0, none⟩)) ∧ W.cell? ⟨bx, 0, none⟩ = some (.int .i64 k) ∧ W.cell? ⟨bx, 1, none⟩ = some (.slice A 0 c) ∧ W.cell? ⟨bx, 2, none⟩ = some (.slice none 0 0) ∧ W.cell? ⟨bx, 3, none⟩ = some (.slice none 0 0) ∧ W.cell? ⟨b4, 0, none⟩ = some (.int .i64 k) ∧ W.cell? ⟨b4, 1, none⟩ = some (.slice A' 0 c') ∧ W.cell? ⟨b4, 2, none⟩ = some (.slice none 0 0) ∧ W.cell? ⟨b4, 3, none⟩ = some (.slice none 0 0)
section
variable {w W W' : World} {b7 bx b4 : Nat} {t : Tg} {k : Int} {A A' : Option Addr} {c c' : Nat}
theorem sg_of (f : Fr w.heap.size [] w W) (h : Has W b7 62 [.int .i64 t.node, .int .i64 t.home, .int .i64 1, .pointer (some ⟨bx, 0, none⟩)]) (g : Has W bx 37 [.int .i64 k, .slice A 0 c, .slice none 0 0, .slice none 0 0]) (j : Has W b4 37 [.int .i64 k, .slice A' 0 c', .slice none 0 0, .slice none 0 0]) : SG w b7 bx b4 t k A c A' c' W := ⟨f, h, g, j, h.cell 2, h.cell 3, g.cell 0, g.cell 1, g.cell 2, g.cell 3, j.cell 0, j.cell 1, j.cell 2, j.cell 3⟩
theorem sg_step (f : Fr W.heap.size [] W W') (h : SG w b7 bx b4 t k A c A' c' W) : SG w b7 bx b4 t k A c A' c' W' := sg_of (h.1.trans (f.mono h.1.size (by simp))) (h.2.1.fr f h.2.1.lt (by simp)) (h.2.2.1.fr f h.2.2.1.lt (by simp)) (h.2.2.2.1.fr f h.2.2.2.1.lt (by simp))
end
section
variable (w : World)
set_option maxHeartbeats 10000000
set_option maxRecDepth 100000
theorem qRep_one {g ty cp : Nat} {AA : Option Addr} {L : List Tg} {rest : List Value} (h : Has w g ty (.slice AA L.length cp :: rest)) (hA : ARow w w.heap.size AA (L.flatMap Tg.cells)) (hl : L.length ≤ 1000000000) (h0 : 0 < L.length) (bx : Nat) (hx0 : L[0].cell = some bx) (hno : ∀ (j : Nat) (hj : j < L.length), 0 < j → L[j].cell = none) (k : Int) (A : Option Addr) (c : Nat) (hX : Has w bx 37 [.int .i64 k, .slice A 0 c, .slice none 0 0, .slice none 0 0]) :
    Calls Try.prog 15 #[.pointer (some ⟨g, 0, none⟩)] w fun e w' => (∃ (out : List Int) (A2 : Option Addr) (c2 : Nat), e = .returned (.slice A2 out.length c2) ∧ w'.ownsRow w.heap.size 3 1 (.slice A2 out.length c2) out.length (out.map (Value.int .i64)) ∧ out = (L.filter repB).map Tg.node) ∧ Fr w.heap.size [] w w' := by
  have hqc := qCell_one w h hA hl h0 bx hx0 hno k A c hX
  obtain ⟨i0, hi, hz0, hz1, hz2⟩ : ∃ i, Try.prog.info? 3 = some i ∧ i.zero = some (.int .i64 0) ∧ i.size = 1 ∧ i.bytes = 8 := by
    have h := infoI
    cases hi : Try.prog.info? 3 with
    | none => rw [hi] at h; cases h
    | some i0 =>
      rw [hi] at h
      simp only [Option.map_some, Option.some.injEq, Prod.mk.injEq] at h
      exact ⟨i0, rfl, h.1, h.2.1, h.2.2⟩
  go_enter Try.func15, Try.ntmps15
  go_upto_region 5 with (go_at_call 19; (with_reducible refine hqc.mono ?_); rintro e w2 ⟨⟨A', c', rfl⟩, f2⟩)
  have hF2 := f2.alloc f2.size (.cells #[.int .i64 k, .slice A' 0 c', .slice none 0 0, .slice none 0 0] 37)
  have V4 := Has.new w2 37 [.int .i64 k, .slice A' 0 c', .slice none 0 0, .slice none 0 0]
  have hlt4 := V4.lt
  obtain ⟨W1, hW1⟩ : ∃ W1, W1 = w2.alloc (.cells #[.int .i64 k, .slice A' 0 c', .slice none 0 0, .slice none 0 0] 37) := ⟨_, rfl⟩
  obtain ⟨b4, hb4⟩ : ∃ b4, b4 = w2.heap.size := ⟨_, rfl⟩
  rw [← hW1] at hF2 V4 hlt4 ⊢
  rw [← hb4] at V4 hlt4 ⊢
  clear hW1 hb4 f2 hqc
  have c0 : W1.cell? ⟨g, 0, none⟩ = some (.slice AA L.length cp) := (hF2.cell (p := ⟨g, 0, none⟩) h.lt (by simp)).trans (h.cell 0)
  go_wp2
  go_loopw [3, 22] (fun s i wr => ∃ (q : Nat) (A2 : Option Addr) (c2 : Nat) (out : List Int), q ≤ L.length ∧ i = .int .i64 (q : Int) ∧ s = .slice A2 out.length c2 ∧ wr.ownsRow w.heap.size 3 1 (.slice A2 out.length c2) out.length (out.map (Value.int .i64)) ∧ Hid (out = ((L.take q).filter repB).map Tg.node) ∧ out.length ≤ q ∧ Fr w.heap.size [] w wr ∧ Has wr b4 37 [.int .i64 k, .slice A' 0 c', .slice none 0 0, .slice none 0 0] ∧ some b4 ≠ (Value.slice A2 out.length c2).ownBlock) (fun _ i _ => L.length - (intOf i).toNat)
  case atStart => exact ⟨0, none, 0, [], by omega, rfl, rfl, World.ownsRow_nil _ _ _ _, Lib.hid rfl, by simp, hF2, V4, by simp [Value.ownBlock]⟩
  case round =>
    obtain ⟨q, A2, c2, out, hq, rfl, rfl, hown, hout, hol, hF, V4, hbne⟩ := hrel
    by_cases hlt : q < L.length
    · have hki : (q : Int) < L.length := by omega
      obtain ⟨t, ht⟩ : ∃ t, Hid (t = L[q]'hlt) := ⟨L[q]'hlt, rfl⟩
      obtain ⟨blk, o, rfl, hb1, d0, d1, d2, d3⟩ := tg_cells (hA.fr hF (Nat.le_refl _) (by simp)) q hlt
      rw [← ht.out] at d0 d1 d2 d3
      have hst : Hid (((L.take (q + 1)).filter repB).map Tg.node = out ++ if repB t = true then [t.node] else []) := by
        refine Lib.hid ?_
        rw [rep_step L q hlt, List.map_append, hout.out, ht.out]
        congr 1
        split <;> rfl
      have hx1 := hno q hlt
      have hx2 : q = 0 → t.cell = some bx := fun e => by rw [ht.out]; subst e; exact hx0
      rw [← ht.out] at hx1
      have hXr := hX.fr hF hX.lt (by simp)
      clear hno hx0 h0 ht hout
      by_cases hs1 : t.said = 1
      · rw [hs1] at d2
        by_cases hq0 : q = 0
        · have htc := hx2 hq0
          have hrb : repB t = false := by simp [repB, htc]
          rw [hrb] at hst
          rw [htc] at d3
          clear hx1 hx2 hq0
          simp only [pcV] at d3
          have V7 := Has.new wr 62 [.int .i64 t.node, .int .i64 t.home, .int .i64 1, .pointer (some ⟨bx, 0, none⟩)]
          have T : SG w wr.heap.size bx b4 t k A c A' c' (wr.alloc (.cells #[.int .i64 t.node, .int .i64 t.home, .int .i64 1, .pointer (some ⟨bx, 0, none⟩)] 62)).drew := sg_of (hF.alloc hF.size _).drew V7 (hXr.alloc _) (V4.alloc _)
          have hown5 : (wr.alloc (.cells #[.int .i64 t.node, .int .i64 t.home, .int .i64 1, .pointer (some ⟨bx, 0, none⟩)] 62)).drew.ownsRow w.heap.size 3 1 (.slice A2 out.length c2) out.length (out.map (Value.int .i64)) := hown.alloc (.cells #[.int .i64 t.node, .int .i64 t.home, .int .i64 1, .pointer (some ⟨bx, 0, none⟩)] 62)
          clear V7
          go_wp2
          go_region_held3 (fun W => Fr w.heap.size [] w W ∧ Has W wr.heap.size 62 [.int .i64 t.node, .int .i64 t.home, .int .i64 1, .pointer (some ⟨bx, 0, none⟩)] ∧ Has W bx 37 [.int .i64 k, .slice A 0 c, .slice none 0 0, .slice none 0 0] ∧ Has W b4 37 [.int .i64 k, .slice A' 0 c', .slice none 0 0, .slice none 0 0] ∧ W.cell? ⟨wr.heap.size, 2, none⟩ = some (.int .i64 1) ∧ W.cell? ⟨wr.heap.size, 3, none⟩ = some (.pointer (some ⟨bx, 0, none⟩)) ∧ W.cell? ⟨bx, 0, none⟩ = some (.int .i64 k) ∧ W.cell? ⟨bx, 1, none⟩ = some (.slice A 0 c) ∧ W.cell? ⟨bx, 2, none⟩ = some (.slice none 0 0) ∧ W.cell? ⟨bx, 3, none⟩ = some (.slice none 0 0) ∧ W.cell? ⟨b4, 0, none⟩ = some (.int .i64 k) ∧ W.cell? ⟨b4, 1, none⟩ = some (.slice A' 0 c') ∧ W.cell? ⟨b4, 2, none⟩ = some (.slice none 0 0) ∧ W.cell? ⟨b4, 3, none⟩ = some (.slice none 0 0))
            (first
              | with_reducible assumption
              | (with_reducible exact sg_step (by with_reducible assumption) (by with_reducible assumption)))
            (first
              | (go_at_call 20; (with_reducible refine (cSame_nil _ _ _ _ _ _).mono ?_); rintro e w7 ⟨rfl, f7⟩; have hown7 := own_fr hown5 (fun q hq => ⟨(hown5.lt q hq).2, List.not_mem_nil⟩) f7))
          rename_i hh
          go_wp2
          exact ⟨⟨q + 1, A2, c2, out, by omega, by go_num, rfl, hown7, Lib.hid (by rw [hst.out]; simp), by omega, hh.1, hh.2.2.2.1, hbne⟩, by simp [intOf]; omega⟩
        · have htc := hx1 (by omega)
          have hrb : repB t = true := by simp [repB, htc, hs1]
          rw [hrb] at hst
          rw [htc] at d3
          simp only [pcV] at d3
          have V7 := Has.new wr 62 [.int .i64 t.node, .int .i64 t.home, .int .i64 1, .pointer none]
          have v0 := V7.cell 0
          have v2 := V7.cell 2
          have v3 := V7.cell 3
          clear hx1 hx2
          go_wp2
          go_quiet (fail)
          have hown5 : ((wr.alloc (.cells #[.int .i64 t.node, .int .i64 t.home, .int .i64 1, .pointer none] 62)).drewN nq).ownsRow w.heap.size 3 1 (.slice A2 out.length c2) out.length (out.map (Value.int .i64)) := hown.alloc (.cells #[.int .i64 t.node, .int .i64 t.home, .int .i64 1, .pointer none] 62)
          have V5 := (V4.alloc (.cells #[.int .i64 t.node, .int .i64 t.home, .int .i64 1, .pointer none] 62)).drewN nq
          have hF5 := (hF.alloc hF.size (.cells #[.int .i64 t.node, .int .i64 t.home, .int .i64 1, .pointer none] 62)).drewN nq
          have V8 := V7.drewN nq
          obtain ⟨W5, hW5⟩ : ∃ W5, W5 = (wr.alloc (.cells #[.int .i64 t.node, .int .i64 t.home, .int .i64 1, .pointer none] 62)).drewN nq := ⟨_, rfl⟩
          rw [← hW5] at hown5 V5 hF5 V8 ⊢
          clear v0 v2 v3 V7 hW5 d0 d1 d2 d3 V4 hF hown
          have v0 := V8.cell 0
          have hones : ∀ u ∈ [Value.int .i64 t.node], u.oneCell' = true := by
            intro u hu
            simp only [List.mem_cons, List.not_mem_nil, or_false] at hu
            rw [hu]; rfl
          have hs5 := hF5.size
          have fr0 : Fr W5.heap.size (Value.slice A2 out.length c2).ownBlock.toList W5 (W5.alloc (.cells #[.int .i64 t.node] 3)) := (Fr.refl _ _ _).alloc (Nat.le_refl _) _
          go_wp2_with (at_builtin; refine wpList_append_has (by rfl) (.tmp 43) (.tmp 47) 53 (by rfl) w.heap.size 3 i0 (.int .i64 0) 1 8 Try.underlying53 hi hz0 hz1 hz2 rfl (by decide) _ out.length _ (by rfl) (hown5.alloc _) W5.heap.size 1 [.int .i64 t.node] (by rfl) (Has.new W5 3 _) rfl hones (by unfold maxLen; omega) (by omega) (by simp; omega) ?_; intro v' w6 hB6 hg6 hv6; obtain ⟨A3, c3, rfl⟩ := own_len hB6)
          have fr2 := fr0.grown hg6 (by simp) (fun q hq => .inl (by simp [hq]))
          have hb4 : b4 ∉ (Value.slice A2 out.length c2).ownBlock.toList := fun hm => hbne (Option.mem_toList.1 hm).symm
          have V6 := V5.fr fr2 V5.lt hb4
          have hF6 := hF5.trans (fr2.mono hs5 fun q hq hl => by
            have := (hown5.lt q (Option.mem_toList.1 hq)).1
            omega)
          have hlen : (out ++ [t.node]).length = out.length + 1 := by simp
          refine ⟨⟨q + 1, A3, c3, out ++ [t.node], by omega, by go_num, by rw [hlen], by rw [hlen]; simpa using hB6, Lib.hid (by rw [hst.out]; simp), by rw [hlen]; omega, hF6, V6, ?_⟩, by simp [intOf]; omega⟩
          rw [hlen]
          rcases hv6 with e | e
          · rw [e]; exact hbne
          · rw [e]
            intro e2
            have := V5.lt
            simp at e2
            omega
      · have hrb : repB t = false := by simp [repB, hs1]
        rw [hrb] at hst
        have hs2 : decide (t.said = 1) = false := decide_eq_false hs1
        have hs3 : (t.said == 1) = false := by simpa using hs1
        obtain ⟨p, hp⟩ : ∃ p, pcV t.cell = p := ⟨_, rfl⟩
        rw [hp] at d3
        have V7 := Has.new wr 62 [.int .i64 t.node, .int .i64 t.home, .int .i64 t.said, .pointer p]
        have v2 := V7.cell 2
        have v3 := V7.cell 3
        clear hx1 hx2 hp hs1
        go_wp2
        go_quiet (fail)
        go_wp2
        exact ⟨⟨q + 1, A2, c2, out, by omega, by go_num, rfl, hown.alloc (.cells #[.int .i64 t.node, .int .i64 t.home, .int .i64 t.said, .pointer p] 62), Lib.hid (by rw [hst.out]; simp), by omega, (hF.alloc hF.size _).drewN _, (V4.alloc _).drewN _, hbne⟩, by simp [intOf]; omega⟩
    · obtain rfl : q = L.length := by omega
      have hki : ¬ ((L.length : Int) < L.length) := by omega
      rw [List.take_length] at hout
      go_wp2
      go_ret
      exact ⟨⟨out, A2, c2, rfl, hown, hout.out⟩, hF⟩
end
end Go.Proofs.Ytcemlacfldonlaa
