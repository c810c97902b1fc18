/- Send. -/
import Derived.Test.YtjlpbhmhnniodaaNetDrop
import Derived.Deep.RegionLaw
namespace Go.Proofs.Ytjlpbhmhnniodaa
open Go.RowKit Go.Maps
open Nt
/-- What Send leaves: how many were made, the messages, how many were sent. -/
def Nt.sendS (src dst : Int) : List ByteArray → Int → List Msg → Int × List Msg × Nat
  | [], made, ms => (made, ms, 0)
  | b :: bs, made, ms => if 4096 ≤ ms.length then (made, ms, 0) else
      let r := sendS src dst bs (made + 1) (ms ++ [⟨made + 1, src, dst, b⟩])
      (r.1, r.2.1, r.2.2 + 1)
def Nt.upK (k : Nat) (r : Int × List Msg × Nat) : Int × List Msg × Nat := (r.1, r.2.1, r.2.2 + k)
theorem Nt.sendS_full (src dst : Int) (bs : List ByteArray) (made : Int) (ms : List Msg) (h : 4096 ≤ ms.length) : sendS src dst bs made ms = (made, ms, 0) := by
  cases bs
  · rfl
  · unfold sendS
    rw [if_pos h]
theorem Nt.sendS_drop (src dst : Int) (bs : List ByteArray) (k : Nat) (hk : k < bs.length) (made : Int) (ms : List Msg) (h : ¬ 4096 ≤ ms.length) : upK k (sendS src dst (bs.drop k) made ms) = upK (k + 1) (sendS src dst (bs.drop (k + 1)) (made + 1) (ms ++ [⟨made + 1, src, dst, bs[k]⟩])) := by
  rw [List.drop_eq_getElem_cons hk]
  conv => lhs; unfold sendS
  rw [if_neg h]
  simp only [upK, Nat.add_assoc, Nat.add_comm 1 k]
set_option maxHeartbeats 4000000 in
theorem send_any (w : World) (g : Nat) (F : List Nat) (made : Int) (ms : List Msg) (D : List (Pair × Unit)) (hN : NetIs w g F made ms D) (hm0 : 0 ≤ made) (hm1 : made ≤ 1000000000) (src dst : Int) (hs : okI src) (hd : okI dst) (A : Option Addr) (c : Nat) (bs : List ByteArray) (hA : ARow w w.heap.size A (bs.map Value.string)) (hAF : ∀ blk o, A = some ⟨blk, o, none⟩ → blk ∉ F) (hb : bs.length ≤ 1000000) :
    Calls Try.prog 9 #[.pointer (some ⟨g, 0, none⟩), .int .i64 src, .int .i64 dst, .slice A bs.length c] w fun e w' => e = .returned (.int .i64 (sendS src dst bs made ms).2.2) ∧ ∃ F', NetIs w' g F' (sendS src dst bs made ms).1 (sendS src dst bs made ms).2.1 D ∧ Fr w.heap.size F w w' ∧ ∀ q ∈ F', q ∈ F ∨ w.heap.size ≤ q := by
  obtain ⟨S, hS⟩ : ∃ S, Hid (S = sendS src dst bs made ms) := ⟨_, rfl⟩
  rw [← hS.out]
  have hgl := hN.lt g hN.self
  have hgF := hN.self
  obtain ⟨i0, hi, hz0, hz1, hz2⟩ : ∃ i0, Try.prog.info? 34 = some i0 ∧ i0.zero = some (.agg #[.int .i64 0, .int .i64 0, .int .i64 0, .string ⟨#[]⟩]) ∧ i0.size = 4 ∧ i0.bytes = 40 := by
    have h := infoMsg
    cases hi : Try.prog.info? 34 with
    | none => rw [hi] at h; cases h
    | some i0 =>
      rw [hi] at h
      simp only [Option.map_some, Option.some.injEq, Prod.mk.injEq] at h
      exact ⟨i0, rfl, h.1, h.2.1, h.2.2⟩
  go_enter Try.func9, Try.ntmps9
  go_wp2
  go_loopw [9, 16] (fun sn i wr => ∃ (k : Nat) (mk : Int) (mm : List Msg) (F' : List Nat), k ≤ bs.length ∧ i = .int .i64 (k : Int) ∧ sn = .int .i64 (k : Int) ∧ NetIs wr g F' mk mm D ∧ Fr w.heap.size F w wr ∧ (∀ q ∈ F', q ∈ F ∨ w.heap.size ≤ q) ∧ Hid (S = upK k (sendS src dst (bs.drop k) mk mm)) ∧ 0 ≤ mk ∧ mk ≤ 1000000000 + (k : Int) ∧ mm.length ≤ ms.length + k) (fun _ i _ => bs.length - (intOf i).toNat)
  case atStart => exact ⟨0, made, ms, F, by omega, rfl, rfl, hN, Fr.refl _ _ _, fun q hq => .inl hq, hS, hm0, by omega, by omega⟩
  case round =>
    obtain ⟨k, mk, mm, F', hk, rfl, rfl, hN1, hF1, hFF, hSk, hmk0, hmk1, hmm⟩ := hrel
    obtain ⟨sl, mp, h1, h2, h3, h4⟩ := hN1.ex
    have hmsgs := hN1.msgs
    have hcuts := hN1.cuts
    have hlt1 := hN1.lt
    obtain ⟨As, cs, rfl⟩ := own_len h2
    have c1 : wr.cell? ⟨g, 1, none⟩ = some (.slice As mm.length cs) := h1.cell 1
    have c0 : wr.cell? ⟨g, 0, none⟩ = some (.int .i64 mk) := h1.cell 0
    have z0 := h1.frozen 0
    by_cases hlt : k < bs.length
    · have hki : (k : Int) < bs.length := by omega
      obtain ⟨x, hx⟩ : ∃ x, Hid (x = bs[k]'hlt) := ⟨bs[k]'hlt, rfl⟩
      obtain ⟨blk, o, rfl, hbk, hc⟩ : ∃ blk o, A = some ⟨blk, o, none⟩ ∧ blk < w.heap.size ∧ wr.cell? ⟨blk, o + k, none⟩ = some (.string x) := by
        rcases hA with h | ⟨blk, o, hA, hb, hr⟩
        · simp at h; subst h; simp at hlt
        · exact ⟨blk, o, hA, hb, (hF1.cell (p := ⟨blk, o + k, none⟩) hb (hAF blk o hA)).trans (hr k _ (by simp [hlt, hx.out]))⟩
      by_cases hfull : 4096 ≤ mm.length
      · have hfi : (4096 : Int) ≤ mm.length := by omega
        go_wp2
        go_ret
        rw [hSk.out, sendS_full _ _ _ _ _ hfull]
        exact ⟨by simp [upK], F', hN1, hF1, hFF⟩
      · have hfi : ¬ ((4096 : Int) ≤ mm.length) := by omega
        have hgr : g < wr.heap.size := hlt1 g hN1.self
        have hne := own_ne h2 h1 (by decide)
        have H1 := h1.set 0 (.int .i64 (mk + 1))
        have d0 : _ = some (Value.int .i64 (mk + 1)) := H1.cell 0
        have d1 : _ = some (Value.slice As mm.length cs) := H1.cell 1
        have fm : Fr wr.heap.size [g] wr (wr.setCell ⟨g, 0, none⟩ (.int .i64 (mk + 1))) := (Fr.refl _ _ _).setCell (.inl (by simp)) _
        have hrow := ownsRow_fr h2 (S := [g]) (fun q hq => ⟨hlt1 q (h3 q hq), by simp; intro e; exact hne (e ▸ hq)⟩) fm
        go_upto_region 10 with (fail)
        have hrowd : (wr.setCell ⟨g, 0, none⟩ (.int .i64 (mk + 1))).drew.ownsRow 0 34 4 (.slice As mm.length cs) mm.length (mm.flatMap Msg.cells) := hrow
        have H1d := H1.drew
        have fr0 : Fr wr.heap.size (Value.slice As mm.length cs).ownBlock.toList (wr.setCell ⟨g, 0, none⟩ (.int .i64 (mk + 1))).drew ((wr.setCell ⟨g, 0, none⟩ (.int .i64 (mk + 1))).drew.alloc (.cells #[.int .i64 (mk + 1), .int .i64 src, .int .i64 dst, .string x] 34)) := (Fr.refl _ _ _).alloc (by simp) _
        have hgo : g ∉ (Value.slice As mm.length cs).ownBlock.toList := by simpa [Option.mem_toList] using hne
        go_region_law (refine step_append_has (by rfl) (.tmp 39) (.tmp 48) 26 (by rfl) 0 34 i0 (.agg #[.int .i64 0, .int .i64 0, .int .i64 0, .string ⟨#[]⟩]) 4 40 Try.underlying26 hi hz0 hz1 hz2 rfl (by decide) _ mm.length _ (by rfl) (hrowd.alloc _) wr.heap.size 1 [.int .i64 (mk + 1), .int .i64 src, .int .i64 dst, .string x] (by rfl) (Has.new' _ _ _ (by simp)) rfl (ones_msg rfl rfl rfl rfl) (by unfold maxLen; omega) (by omega) (by omega) ?_; intro v' w2 hB2 hg2 hv2; obtain ⟨A2, c2, rfl⟩ := own_len hB2; have fr2 := fr0.grown hg2 (by simp) (fun q hq => .inl (by simp [hq])); have H3 := H1d.fr fr2 hgr hgo; have z3 := H3.frozen 1; have x3 : w2.cell? ⟨g, 1, none⟩ = some (.slice As mm.length cs) := H3.cell 1)
        all_goals
         go_wp2
         go_roundw
         case rel =>
          have hF' := hF1.size
          have s2 := fr2.size
          have hne2 := own_ne hB2 H3 (by decide)
          have H4 := H3.set 1 (.slice A2 (mm.length + 1) c2)
          have fr3 : Fr w2.heap.size [g] w2 (w2.setCell ⟨g, 1, none⟩ (.slice A2 (mm.length + 1) c2)) := (Fr.refl _ _ _).setCell (.inl (by simp)) _
          have hrow3 := ownsRow_fr hB2 (S := [g]) (fun q hq => ⟨(hB2.lt q hq).2, by simp; intro e; exact hne2 (e ▸ hq)⟩) fr3
          have hall : Fr w.heap.size F w (w2.setCell ⟨g, 1, none⟩ (.slice A2 (mm.length + 1) c2)) :=
            ((hF1.trans (fm.mono hF' fun q hq _ => by simp at hq; exact hq ▸ hgF)).drew.trans (fr2.mono hF' fun q hq hl => by
              simp [Option.mem_toList] at hq
              rcases hFF q (h3 q hq) with h | h
              · exact h
              · omega)).trans (fr3.mono (by simp at s2; omega) fun q hq _ => by simp at hq; exact hq ▸ hgF)
          refine ⟨k + 1, mk + 1, mm ++ [⟨mk + 1, src, dst, x⟩], (Value.slice A2 (mm.length + 1) c2).ownBlock.toList ++ F', by omega, by go_num, by go_num, ⟨⟨_, mp, H4, ?_, fun q hq => by simp [hq], ?_⟩, by simp [hN1.self], ?_, hcuts, ?_⟩, hall, ?_, ?_, by omega, by omega, by simp; omega⟩
          · simpa [Msg.cells] using hrow3
          · rcases h4 with ⟨rfl, rfl⟩ | ⟨b, rfl, hm, hbF⟩
            · exact .inl ⟨rfl, rfl⟩
            · have hb1 := has_ne_map h1 hm
              have hb2 := row_ne_map h2 hm
              have hbl := hm.lt
              exact .inr ⟨b, rfl, (((hm.fr fm hbl (by simp; omega)).drew.fr fr2 hbl (by simpa [Option.mem_toList] using hb2)).fr fr3 (by simp at s2; omega) (by simp; omega)), by simp [hbF]⟩
          · intro q hq
            rcases List.mem_append.1 hq with hq | hq
            · simp [Option.mem_toList] at hq
              have := (hB2.lt q hq).2
              have := fr3.size
              omega
            · have := hlt1 q hq
              have := fr3.size
              simp at s2
              omega
          · intro m hm
            rcases List.mem_append.1 hm with hm | hm
            · exact hmsgs m hm
            · simp at hm
              subst hm
              exact ⟨by unfold okI; simp only; omega, hs, hd⟩
          · intro q hq
            rcases List.mem_append.1 hq with hq | hq
            · simp [Option.mem_toList] at hq
              rcases hv2 with e | e
              · rw [e] at hq
                exact hFF q (h3 q hq)
              · rw [e] at hq
                injection hq with hq
                simp at hq
                omega
            · exact hFF q hq
          · exact Lib.hid (by rw [hSk.out, sendS_drop _ _ _ _ hlt _ _ hfull, ← hx.out])
         case measure => simp [intOf]; omega
    · have hkn : k = bs.length := by omega
      have hki : ¬ ((k : Int) < bs.length) := by omega
      subst hkn
      go_wp2
      go_ret
      rw [hSk.out, List.drop_length]
      exact ⟨by simp [upK, sendS], F', hN1, hF1, hFF⟩
theorem nat_beq1 (n : Nat) : ((n : Int) == 1) = (n == 1) := by
  rw [Bool.eq_iff_iff]
  simp
  omega
/-- What Double leaves. -/
def Nt.doubleS (made : Int) (ms : List Msg) (pick : Int) : Int × List Msg × Nat := match pickS ms pick with | none => (made, ms, 0) | some x => sendS x.src x.dst [x.body] made ms
set_option maxHeartbeats 2000000 in
theorem double_any (w : World) (g : Nat) (F : List Nat) (made : Int) (ms : List Msg) (D : List (Pair × Unit)) (hN : NetIs w g F made ms D) (hms : ms.length ≤ 1000000) (hm0 : 0 ≤ made) (hm1 : made ≤ 1000000000) (pick : Int) (hp : okI pick) :
    Calls Try.prog 15 #[.pointer (some ⟨g, 0, none⟩), .int .i64 pick] w fun e w' => e = .returned (.bool ((doubleS made ms pick).2.2 == 1)) ∧ ∃ F', NetIs w' g F' (doubleS made ms pick).1 (doubleS made ms pick).2.1 D ∧ Fr w.heap.size F w w' ∧ ∀ q ∈ F', q ∈ F ∨ w.heap.size ≤ q := by
  obtain ⟨sl, mp, h1, h2, h3, As, cs, rfl⟩ := hN.row
  have c1 : w.cell? ⟨g, 1, none⟩ = some (.slice As ms.length cs) := h1.cell 1
  have hA : ARow w w.heap.size As (ms.flatMap Msg.cells) := by
    obtain ⟨A, c, he, hA⟩ := row_arow h2 rfl
    injection he with he
    exact he ▸ hA
  have hpk : Calls Try.prog 19 #[.slice As ms.length cs, .int .i64 pick] w fun e w' => e = .returned (.tuple #[((pickS ms pick).getD zeroMsg).val, .bool (pickS ms pick).isSome]) ∧ Fr w.heap.size [] w w' := picked_any w As cs ms pick hp hA hms
  unfold doubleS
  cases hq : pickS ms pick with
  | none =>
    rw [hq] at hpk
    unfold Msg.val at hpk
    simp only [Option.getD_none, Option.isSome_none] at hpk
    generalize zeroMsg = x at hpk
    go_enter Try.func15, Try.ntmps15
    go_wp2_with (go_at_call 19; (refine hpk.mono ?_); rintro e w2 ⟨rfl, f2⟩)
    go_ret
    have hF := f2.alloc f2.size (.cells #[.int .i64 x.n, .int .i64 x.src, .int .i64 x.dst, .string x.body] 34)
    exact ⟨rfl, F, hN.fr0 hF, hF.mono (Nat.le_refl _) (by simp), fun q hq => .inl hq⟩
  | some x =>
    rw [hq] at hpk
    unfold Msg.val at hpk
    simp only [Option.getD_some, Option.isSome_some] at hpk
    have hxm : okI x.n ∧ okI x.src ∧ okI x.dst := hN.msgs x (by
      unfold pickS at hq
      exact List.mem_of_getElem? hq)
    simp only
    obtain ⟨S, hS⟩ : ∃ S, Hid (S = sendS x.src x.dst [x.body] made ms) := ⟨_, rfl⟩
    rw [← hS.out]
    have hsend : ∀ W b, NetIs W g F made ms D → b < W.heap.size → b ∉ F → W.cell? ⟨b, 0, none⟩ = some (.string x.body) → Calls Try.prog 9 #[.pointer (some ⟨g, 0, none⟩), .int .i64 x.src, .int .i64 x.dst, .slice (some ⟨b, 0, none⟩) 1 1] W fun e w' => e = .returned (.int .i64 S.2.2) ∧ ∃ F', NetIs w' g F' S.1 S.2.1 D ∧ Fr W.heap.size F W w' ∧ ∀ q ∈ F', q ∈ F ∨ W.heap.size ≤ q := fun W b hW hb hbF hc => by
      rw [hS.out]
      exact send_any W g F made ms D hW hm0 hm1 x.src x.dst hxm.2.1 hxm.2.2 (some ⟨b, 0, none⟩) 1 [x.body] (.inr ⟨b, 0, rfl, hb, fun j u hu => by
        cases j with
        | zero => simp at hu; subst hu; exact hc
        | succ j => simp at hu⟩) (fun blk o h => by injection h with h; injection h with h1 _; exact h1 ▸ hbF) (by simp)
    clear hS
    go_enter Try.func15, Try.ntmps15
    go_wp2_with (first
      | (go_at_call 9; (refine (hsend _ (w2.heap.size + 1) hN2 (by simp) hbF (by first | exact hb6 | simpa using hb6)).mono ?_); rintro e w4 ⟨rfl, F4, hN4, f4, hF4⟩)
      | (go_at_call 19; (refine hpk.mono ?_); rintro e w2 ⟨rfl, f2⟩;
         have hF2 := f2.alloc f2.size (.cells #[.int .i64 x.n, .int .i64 x.src, .int .i64 x.dst, .string x.body] 34);
         have hF3 := hF2.alloc hF2.size (.cells #[.string x.body] 9);
         have hN2 := hN.fr0 hF3;
         have hbF : w2.heap.size + 1 ∉ F := fun hk => absurd (hN.lt _ hk) (by have := f2.size; omega);
         have hb6 := (Has.new' (w2.alloc (.cells #[.int .i64 x.n, .int .i64 x.src, .int .i64 x.dst, .string x.body] 34)) 9 [.string x.body] (g := w2.heap.size + 1) (by simp)).cell 0))
    go_ret
    refine ⟨by simp [nat_beq1], F4, hN4, (hF3.mono (S' := F) (Nat.le_refl _) (by simp)).trans (f4.mono hF3.size fun _ h _ => h), fun q hq => (hF4 q hq).imp id fun h => ?_⟩
    have := hF3.size
    simp at this h
    omega
end Go.Proofs.Ytjlpbhmhnniodaa
