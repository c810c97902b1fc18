/- New. -/
import Derived.Test.YtcemlacfldonlaaQuoYes
import Derived.Deep.RegionLaw
namespace Go.Proofs.Ytcemlacfldonlaa
open Go.RowKit
def addT (L : List Tg) (t : Int × Int) : List Tg := if L.any (fun x => decide (x.node = t.1)) then L else L ++ [⟨t.1, t.2, 0, none⟩]
def newL (ts : List (Int × Int)) : List Tg := ts.foldl addT []
theorem newL_step (ts : List (Int × Int)) (k : Nat) (hk : k < ts.length) : newL (ts.take (k + 1)) = addT (newL (ts.take k)) ts[k] := by
  unfold newL
  rw [List.take_succ_eq_append_getElem hk, List.foldl_append]
  rfl
theorem addT_nod {L : List Tg} (hn : (L.map Tg.node).Nodup) (t : Int × Int) : ((addT L t).map Tg.node).Nodup := by
  unfold addT
  split
  · exact hn
  · rename_i h
    rw [List.map_append, List.nodup_append]
    refine ⟨hn, by simp, fun a ha b hb e => h ?_⟩
    simp at hb
    obtain ⟨x, hx, rfl⟩ := List.mem_map.1 ha
    exact List.any_eq_true.2 ⟨x, hx, by simp [e, hb]⟩
theorem newL_nod (ts : List (Int × Int)) : ((newL ts).map Tg.node).Nodup := by
  unfold newL
  have : ∀ (ts : List (Int × Int)) (L : List Tg), (L.map Tg.node).Nodup → ((ts.foldl addT L).map Tg.node).Nodup := by
    intro ts
    induction ts with
    | nil => intro L h; exact h
    | cons t ts ih => intro L h; exact ih _ (addT_nod h t)
  exact this ts [] (by simp)
theorem addT_len (L : List Tg) (t : Int × Int) : (addT L t).length ≤ L.length + 1 := by unfold addT; split <;> simp
theorem infoT : (Try.prog.info? 62).map (fun i => (i.zero, i.size, i.bytes)) = some (some (.agg #[.int .i64 0, .int .i64 0, .int .i64 0, .pointer none]), 4, 32) := by kernel_rfl
def PT (t : Int × Int) : List Value := [.int .i64 t.1, .int .i64 t.2]
theorem own_len {w : World} {base e size n : Nat} {v : Value} {xs : List Value} (h : w.ownsRow base e size v n xs) : ∃ A cp, v = .slice A n cp := by
  rcases h.2 with ⟨rfl, h0⟩ | ⟨gb, cap, cur, rfl, _⟩
  · exact ⟨none, 0, by rw [h0]⟩
  · exact ⟨_, _, rfl⟩
theorem own_mem {w : World} {base e size n m c : Nat} {A : Option Addr} {xs : List Value} (h : w.ownsRow base e size (.slice A n c) m xs) {q : Nat} (hq : (Value.slice A n c).ownBlock = some q) : A = some ⟨q, 0, none⟩ ∧ ∃ cur, w.heap[q]? = some (.cells cur e (0, 0)) := by
  rcases h.2 with ⟨h0, _⟩ | ⟨g2, cap, cur, he, _, hg, _⟩
  · rw [h0] at hq; cases hq
  · rw [he] at hq
    injection hq with hq
    subst hq
    injection he with e1 e2 e3
    exact ⟨e1, cur, hg⟩
theorem own_of {w : World} {base e size n m c : Nat} {A : Option Addr} {xs : List Value} (h : w.ownsRow base e size (.slice A n c) m xs) {q o : Nat} (hA : A = some ⟨q, o, none⟩) : (Value.slice A n c).ownBlock = some q := by
  rcases h.2 with ⟨h0, _⟩ | ⟨g2, cap, cur, he, _, hg, _⟩
  · injection h0 with e1; rw [hA] at e1; cases e1
  · injection he with e1 e2 e3
    rw [hA] at e1
    injection e1 with e1
    injection e1 with e4 e5
    subst e4
    rw [hA]
    rfl
/-- A row stands beside a block that is written. -/
theorem own_set {w : World} {base e size n m c g o : Nat} {A : Option Addr} {xs : List Value} {v : Value} (h : w.ownsRow base e size (.slice A n c) m xs) (hne : (Value.slice A n c).ownBlock ≠ some g) : (w.setCell ⟨g, o, none⟩ v).ownsRow base e size (.slice A n c) m xs := by
  refine ⟨h.1, ?_⟩
  rcases h.2 with h0 | ⟨g2, cap, cur, he, hb, hg, r⟩
  · exact .inl h0
  · exact .inr ⟨g2, cap, cur, he, hb, (((One.refl g w).setCell o v).block g2 (fun q => hne (by rw [he, ← q]; rfl))).trans hg, r⟩
set_option maxRecDepth 100000 in
set_option maxHeartbeats 4000000 in
theorem new_any (w : World) (A : Option Addr) (c : Nat) (ts : List (Int × Int)) (need prime : Int) (hA : ARow w w.heap.size A (ts.flatMap PT)) (hl : ts.length ≤ 1000000) :
    Calls Try.prog 6 #[.slice A ts.length c, .int .i64 need, .int .i64 prime] w fun e w' => e = .returned (.pointer (some ⟨w.heap.size, 0, none⟩)) ∧ ∃ F, TyIs w' w.heap.size 57 F need prime (newL ts) ∧ Fr w.heap.size [] w w' ∧ ∀ q ∈ F, w.heap.size ≤ q := by
  obtain ⟨i0, hi, hz0, hz1, hz2⟩ : ∃ i0, Try.prog.info? 62 = some i0 ∧ i0.zero = some (.agg #[.int .i64 0, .int .i64 0, .int .i64 0, .pointer none]) ∧ i0.size = 4 ∧ i0.bytes = 32 := by
    have h := infoT
    cases hi : Try.prog.info? 62 with
    | none => rw [hi] at h; cases h
    | some i0 =>
      rw [hi] at h
      simp only [Option.map_some, Option.some.injEq, Prod.mk.injEq] at h
      exact ⟨i0, rfl, h.1, h.2.1, h.2.2⟩
  have h0 : TyIs (w.alloc (.cells #[.slice none 0 0, .int .i64 need, .int .i64 prime] 57)) w.heap.size 57 [w.heap.size] need prime [] :=
    ⟨⟨none, 0, Has.new w _ [.slice none 0 0, .int .i64 need, .int .i64 prime], ⟨rfl, .inl ⟨rfl, rfl⟩⟩, fun _ _ h => by cases h⟩, by simp, by simp⟩
  have f0 := (Fr.refl w.heap.size [] w).alloc (Nat.le_refl _) (.cells #[.slice none 0 0, .int .i64 need, .int .i64 prime] 57)
  obtain ⟨G, hG⟩ : ∃ G, w.heap.size = G := ⟨_, rfl⟩
  rw [hG] at h0 ⊢
  go_enter Try.func6, Try.ntmps6
  go_wp2
  go_loopw [16] (fun i wr => ∃ (k : Nat) (L : List Tg) (F : List Nat), k ≤ ts.length ∧ i = .int .i64 (k : Int) ∧ TyIs wr G 57 F need prime L ∧ Fr w.heap.size [] w wr ∧ (∀ q ∈ F, w.heap.size ≤ q) ∧ Hid (L = newL (ts.take k)) ∧ L.length ≤ k) (fun i _ => ts.length - (intOf i).toNat)
  case atStart => exact ⟨0, [], [G], by omega, rfl, h0, f0, by simp [hG], Lib.hid rfl, by simp⟩
  case round =>
    obtain ⟨k, L, F, hk, rfl, hT, hF, hFF, hLk, hLl⟩ := hrel
    by_cases hlt : k < ts.length
    · have hki : (k : Int) < ts.length := by omega
      obtain ⟨t, ht⟩ : ∃ t, Hid (t = ts[k]'hlt) := ⟨ts[k]'hlt, rfl⟩
      obtain ⟨blk, o, rfl, hbk, hc⟩ := hA.at (c := 2) (fun _ => rfl) (by decide) k hlt
      have c0 := (hF.cell (p := ⟨blk, o + k * 2 + 0, none⟩) hbk (by simp)).trans (hc 0 _ rfl)
      have c1 := (hF.cell (p := ⟨blk, o + k * 2 + 1, none⟩) hbk (by simp)).trans (hc 1 _ rfl)
      rw [← ht.out] at c0 c1
      obtain ⟨a, b⟩ := t
      simp only [Nat.add_zero] at c0 c1
      have hnext : Hid (newL (ts.take (k + 1)) = addT L (a, b)) := by refine Lib.hid ?_; rw [newL_step ts k hlt, hLk.out, ht.out]
      have V := Has.new wr 45 [.int .i64 a, .int .i64 b]
      have fV := (Fr.refl wr.heap.size [] wr).alloc (Nat.le_refl _) (.cells #[.int .i64 a, .int .i64 b] 45)
      have T1 := hT.fr0 fV
      obtain ⟨B, cp, r1, r2, r3⟩ := T1.row
      have v0 := V.cell 0
      have v1 := V.cell 1
      have hf := find_any r1 r2 (by omega) a
      clear hc hA
      go_upto_region 6 with (go_at_call 16; (with_reducible refine hf.mono ?_); rintro e w4 ⟨v, rfl, ⟨hno, rfl⟩ | ⟨k2, hk2, blk2, o2, hB, rfl, hk1, hbef⟩, f4⟩)
      · have T4 := T1.fr0 f4
        have hF4 : Fr w.heap.size [] w w4 := (hF.trans (fV.mono hF.size (by simp))).trans (f4.mono (by have := fV.size; have := hF.size; omega) (by simp))
        have V4 := V.fr f4 V.lt (by simp)
        have v4 := V4.cell 0
        have v5 := V4.cell 1
        have hadd : addT L (a, b) = L ++ [⟨a, b, 0, none⟩] := by
          unfold addT
          rw [if_neg]
          intro h
          obtain ⟨x, hx, he⟩ := List.any_eq_true.1 h
          exact hno x hx (of_decide_eq_true he)
        rw [hadd] at hnext
        obtain ⟨A1, c2, h1, h2, h3⟩ := T4.ex
        have hgl := T4.lt G T4.self
        have x0 : w4.cell? ⟨G, 0, none⟩ = some (.slice A1 L.length c2) := h1.cell 0
        have hrowd : w4.drew.ownsRow 0 62 4 (.slice A1 L.length c2) L.length (L.flatMap Tg.cells) := h2
        have H1d := h1.drew
        have fr0 : Fr w4.heap.size (Value.slice A1 L.length c2).ownBlock.toList w4.drew (w4.drew.alloc (.cells #[.int .i64 a, .int .i64 b, .int .i64 0, .pointer none] 62)) := (Fr.refl _ _ _).alloc (by simp) _
        have hgo : G ∉ (Value.slice A1 L.length c2).ownBlock.toList := by
          intro hm
          rcases h2.2 with ⟨e, _⟩ | ⟨g2, cap, cur, e, _⟩
          · rw [e] at hm; simp [Value.ownBlock] at hm
          · injection e with e1 e2 e3
            rw [e1] at hm
            simp [Value.ownBlock] at hm
            exact (h3 g2 0 e1).2 hm.symm
        clear hf hT T1 f4 fV V V4 c0 c1 v0 v1 r1 r2 r3
        have hones : ∀ u ∈ [Value.int .i64 a, .int .i64 b, .int .i64 0, .pointer none], u.oneCell' = true := by
          intro u hu
          simp only [List.mem_cons, List.not_mem_nil, or_false] at hu
          rcases hu with rfl | rfl | rfl | rfl <;> rfl
        have x1 : (w4.drew.alloc (.cells #[.int .i64 a, .int .i64 b, .int .i64 0, .pointer none] 62)).cell? ⟨G, 0, none⟩ = some (.slice A1 L.length c2) := (H1d.alloc _).cell 0
        have hsz4 := hF4.size
        go_region_law (refine step_append_has (by rfl) (.tmp 29) (.tmp 32) 55 (by rfl) 0 62 i0 (.agg #[.int .i64 0, .int .i64 0, .int .i64 0, .pointer none]) 4 32 Try.underlying55 hi hz0 hz1 hz2 rfl (by decide) _ L.length _ (by rfl) (hrowd.alloc _) w4.heap.size 1 [.int .i64 a, .int .i64 b, .int .i64 0, .pointer none] (by rfl) (Has.new' _ _ _ (by simp)) rfl hones (by unfold maxLen; omega) (by omega) (by omega) ?_; intro v' w5 hB2 hg2 hv2; obtain ⟨A2, c3, rfl⟩ := own_len hB2; have fr2 := fr0.grown hg2 (by simp) (fun q hq => .inl (by simp [hq])); have H3 := H1d.fr fr2 hgl hgo; have z3 := H3.frozen 0; have x3 : w5.cell? ⟨G, 0, none⟩ = some (.slice A1 L.length c2) := H3.cell 0)
        all_goals
          go_wp2
          have hne2 : (Value.slice A2 (L.length + 1) c3).ownBlock ≠ some G := fun e => by
            obtain ⟨_, cur, hg⟩ := own_mem hB2 e
            unfold Has at H3
            rw [H3] at hg
            injection hg with hg
            injection hg with _ hg
            exact absurd hg (by decide)
          have H4 := H3.set 0 (.slice A2 (L.length + 1) c3)
          have hB3 := own_set (g := G) (o := 0) (v := .slice A2 (L.length + 1) c3) hB2 hne2
          have s2 := fr2.size
          simp only [World.drew] at s2
          have hGF := T4.self
          have hall : Fr w.heap.size [] w (w5.setCell ⟨G, 0, none⟩ (.slice A2 (L.length + 1) c3)) := (hF4.drew.trans (fr2.mono hsz4 fun q hq hl => by
            obtain ⟨e, -⟩ := own_mem h2 (Option.mem_toList.1 hq)
            have := hFF q (h3 q 0 e).1
            omega)).setCell (p := ⟨G, 0, none⟩) (.inr (hFF G hGF)) _
          refine ⟨⟨k + 1, L ++ [⟨a, b, 0, none⟩], (Value.slice A2 (L.length + 1) c3).ownBlock.toList ++ F, by omega, by go_num, ⟨⟨A2, c3, by simpa using H4, by simpa [Tg.cells, pcV] using hB3, fun blk o e => ?_⟩, by simp [hGF], fun q hq => ?_⟩, hall, fun q hq => ?_, Lib.hid hnext.out.symm, by simp; omega⟩, by simp [intOf]; omega⟩
          · have := own_of hB2 e
            exact ⟨by simp [this], fun q => hne2 (by rw [this, q])⟩
          · rcases List.mem_append.1 hq with hq | hq
            · obtain ⟨e, cur, hg⟩ := own_mem hB2 (Option.mem_toList.1 hq)
              have := (Array.getElem?_eq_some_iff.1 hg).1
              simpa [World.setCell] using this
            · have := T4.lt q hq
              simp [World.setCell]
              omega
          · rcases List.mem_append.1 hq with hq | hq
            · rcases hv2 with e | e
              · rw [e] at hq
                obtain ⟨e, -⟩ := own_mem h2 (Option.mem_toList.1 hq)
                exact hFF q (h3 q 0 e).1
              · rw [e] at hq
                simp at hq
                omega
            · exact hFF q hq
      · have T4 := T1.fr0 f4
        have hF4 : Fr w.heap.size [] w w4 := (hF.trans (fV.mono hF.size (by simp))).trans (f4.mono (by have := fV.size; have := hF.size; omega) (by simp))
        have hadd : addT L (a, b) = L := by
          unfold addT
          rw [if_pos]
          exact List.any_eq_true.2 ⟨_, List.getElem_mem hk2, by simp [hk1]⟩
        rw [hadd] at hnext
        go_wp2
        exact ⟨⟨k + 1, L, F, by omega, by go_num, T4, hF4, hFF, Lib.hid hnext.out.symm, by omega⟩, by simp [intOf]; omega⟩
    · obtain rfl : k = ts.length := by omega
      have hki : ¬ ((ts.length : Int) < ts.length) := by omega
      go_wp2
      go_ret
      have e : newL ts = L := by rw [hLk.out, List.take_length]
      exact ⟨rfl, F, by rw [e]; exact hT, by rw [← hG]; exact hF, fun q hq => by have := hFF q hq; omega⟩
end Go.Proofs.Ytcemlacfldonlaa
