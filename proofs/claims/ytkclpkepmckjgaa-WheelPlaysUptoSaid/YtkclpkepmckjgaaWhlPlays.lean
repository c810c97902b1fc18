/- WheelPlays: the walk. -/
import Derived.Test.YtkclpkepmckjgaaWhlSame
import Derived.Deep.CutRange
import Derived.Deep.CutBlock
namespace Go.Proofs.Ytkclpkepmckjgaa
open Go.RowKit Go.Maps Go.Sort Go.Shelf
open Wh
set_option maxRecDepth 100000 in
set_option maxHeartbeats 20000000 in
theorem plays_law (w : World) (A : Option Addr) (c : Nat) (ops : List WOp) (hA : ARow w w.heap.size A (ops.flatMap WOp.cells)) (hops : ∀ o ∈ ops, o.ok w) (hbk : ∀ o ∈ ops, o.names.length ≤ 1048576) :
    Calls Try.prog 3 #[.slice A ops.length c] w fun e w' => e = .returned (.bool true) ∧ Fr w.heap.size [] w w' := by
  go_enter Try.func3, Try.ntmps3
  go_upto_region 2 with (go_at_call 6; (refine (awake_any w).mono ?_); rintro e w1 ⟨rfl, f1⟩)
  go_upto_region 3 with (go_at_call 7; (refine (at_new w1).mono ?_); rintro e w2 ⟨rfl, h2⟩)
  go_upto_region 6 with fail
  have hst : PlSt w (w2.alloc (.cells #[.slice none 0 0] 29)) w1.heap.size w2.heap.size [w2.heap.size] [] 0 [] [] := by
    have hlo := f1.size
    have hlo2 := h2.lo
    have r1 := Has.new w2 29 [.slice none 0 0]
    exact ⟨(h2.keep _).rebase hlo f1, ⟨⟨_, r1, World.ownsRow_nil _ _ _ _, by simp [Value.ownBlock]⟩, by simp, by simp⟩, by simp; omega, by simp⟩
  generalize (w2.alloc (.cells #[.slice none 0 0] 29)) = w3 at hst ⊢
  clear h2 f1
  generalize w2.heap.size = r at hst ⊢
  generalize w1.heap.size = g at hst ⊢
  go_wp2
  go_loopw [6] (fun s6 wr => ∃ (i : Nat) (G : List Nat) (n : Int) (L : List (Key × Int)), i ≤ ops.length ∧ i ≤ 100 ∧ s6 = .int .i64 (i : Int) ∧ PlSt w wr g r G [] n L L ∧ 0 ≤ n ∧ n ≤ i * 1048576 ∧ L.length ≤ i * 1048576) (fun s6 _ => ops.length - (intOf s6).toNat)
  case atStart => exact ⟨0, [r], 0, [], by omega, by omega, rfl, hst, by omega, by omega, by simp⟩
  case round =>
    obtain ⟨i, G, n, L, hi, hi100, rfl, st, hn0, hn1, hL⟩ := hrel
    by_cases hgo : i < ops.length ∧ i < 100
    · obtain ⟨hi1, hi2⟩ := hgo
      have hi1' : (i : Int) < ops.length := by omega
      have hi2' : (i : Int) < 100 := by omega
      obtain ⟨blk, o, rfl, -, hu⟩ := op_at hA i hi1
      obtain ⟨hkind, hat, hnm⟩ := hops ops[i] (List.getElem_mem _)
      have hnl := hbk ops[i] (List.getElem_mem _)
      obtain ⟨⟨kind, a, An, cn, names⟩, hop⟩ : ∃ op, ops[i] = op := ⟨_, rfl⟩
      rw [hop] at hnm hnl hat hu
      simp only at hnm hnl hat hu
      clear hop hkind
      obtain ⟨q0, q1, q2⟩ := hu _ st.wh.frame
      have st4 := st.keep (.cells #[.int .i64 kind, .int .i64 a, .slice An names.length cn] 32)
      have hbo := Has.new wr 32 [.int .i64 kind, .int .i64 a, .slice An names.length cn]
      have hbB : w.heap.size ≤ wr.heap.size := st.wh.lo
      go_upto_block 2 with fail
      clear q0 q1 q2 hu st
      generalize wr.alloc (.cells #[.int .i64 kind, .int .i64 a, .slice An names.length cn] 32) = w4 at st4 hbo ⊢
      generalize wr.heap.size = bo at st4 hbo hbB ⊢
      go_cut [8, 9, 10, 11, 12, 13] from 43 to 116 (fun _ _ _ _ _ _ wc => ∃ (G : List Nat) (n : Int) (L : List (Key × Int)), PlSt w wc g r G [bo] n L L ∧ Has wc bo 32 [.int .i64 kind, .int .i64 a, .slice An names.length cn] ∧ 0 ≤ n ∧ n ≤ ((i + 1 : Nat) : Int) * 1048576 ∧ L.length ≤ (i + 1) * 1048576)
      case first =>
        obtain ⟨b1, hb1⟩ : ∃ b1, (kind.tmod 4 == 2) = b1 := ⟨_, rfl⟩
        obtain ⟨b2, hb2⟩ : ∃ b2, (kind.tmod 4 == -2) = b2 := ⟨_, rfl⟩
        obtain ⟨b3, hb3⟩ : ∃ b3, (kind.tmod 4 == 3) = b3 := ⟨_, rfl⟩
        obtain ⟨b4, hb4⟩ : ∃ b4, (kind.tmod 4 == -3) = b4 := ⟨_, rfl⟩
        generalize kind.tmod 4 = kr at hb1 hb2 hb3 hb4 ⊢
        obtain ⟨e0, e1, e2⟩ : _ ∧ _ ∧ _ := ⟨hbo.cell 0, hbo.cell 1, hbo.cell 2⟩
        have hfr0 := st4.wh.frame
        have hnk : ∀ W : World, Fr w.heap.size [] w W → ∀ k (hk : k < names.length), ∃ blk o, An = some ⟨blk, o, none⟩ ∧ W.cell? ⟨blk, o + k, none⟩ = some (KV names[k]) := fun W hf k hk => by
          obtain ⟨blk, o, h1, h2, h3⟩ := name_of hnm k hk
          exact ⟨blk, o, h1, (hf.cell (p := ⟨blk, o + k, none⟩) h2 (by simp)).trans h3⟩
        have hnr : ∀ W : World, Fr w.heap.size [] w W → ARow W W.heap.size An (names.map KV) := fun W hf => (hnm.fr hf (Nat.le_refl _) (by simp)).mono hf.size
        have hnB : names ≠ [] → ∀ blk o, An = some ⟨blk, o, none⟩ → blk < w.heap.size := fun hne blk o he => by
          obtain ⟨blk', o', h1, h2, _⟩ := name_of hnm 0 (List.length_pos_iff.2 hne)
          rw [he] at h1
          injection h1 with h1
          injection h1 with h1
          omega
        go_upto_if 68 with fail
        go_cut [68] from 70 to 70 (fun s68 wc => s68 = .bool (b1 || b2) ∧ wc = w4)
        case first =>
          cases b1
          · go_wp2
            go_meet
            case rel => exact ⟨rfl, rfl⟩
          · go_wp2
            go_meet
            case rel => exact ⟨rfl, rfl⟩
        case rest =>
          obtain ⟨rfl, rfl⟩ := hcut
          clear hb1 hb2
          cases (b1 || b2)
          · go_upto_if 93 with fail
            go_cut [93] from 95 to 95 (fun s93 wd => s93 = .bool (b3 || b4) ∧ wd = wc)
            case first =>
              cases b3
              · go_wp2
                go_meet
                case rel => exact ⟨rfl, rfl⟩
              · go_wp2
                go_meet
                case rel => exact ⟨rfl, rfl⟩
            case rest =>
              obtain ⟨rfl, rfl⟩ := hcut
              clear hb3 hb4
              cases (b3 || b4)
              · -- Set
                have c11 := at_set st4.wh a An cn names (hnr _ hfr0) (fun hne blk o he => .inr (hnB hne blk o he)) hn0 (by omega)
                go_upto_region 12 with (go_at_call 13; (refine c11.mono ?_); rintro e w5 ⟨rfl, h5, p5⟩)
                obtain ⟨st5, k5⟩ := st4.wheel h5 p5
                have hbo5 := k5.has (by simp) hbo
                clear c11 h5 p5 k5 st4 hbo e0 e1 e2 hfr0
                go_wp2
                go_loopw [13] (fun s13 wr => ∃ (k : Nat) (G' : List Nat), k ≤ names.length ∧ s13 = .int .i64 (k : Int) ∧ PlSt w wr g r G' [bo] (n + names.length) (setV a L names) (setV a L (names.take k)) ∧ Has wr bo 32 [.int .i64 kind, .int .i64 a, .slice An names.length cn]) (fun s13 _ => names.length - (intOf s13).toNat)
                case atStart => exact ⟨0, G, by omega, rfl, st5, hbo5⟩
                case round =>
                  obtain ⟨k, G', hk, rfl, sk, hbk⟩ := hrel
                  obtain ⟨e0, e1, e2⟩ : _ ∧ _ ∧ _ := ⟨hbk.cell 0, hbk.cell 1, hbk.cell 2⟩
                  by_cases hlt : k < names.length
                  · have hki : (k : Int) < names.length := by omega
                    have hRl : (setV a L (names.take k)).length ≤ 1000000000 := by
                      have := setV_le a (names.take k) L
                      rw [List.length_take] at this
                      omega
                    go_upto_region 15 with fail
                    refine region_still_tail 8 (by kernel_rfl) (by kernel_rfl) ?_
                    intro W hW
                    obtain ⟨sW, kW⟩ := sk.fr (W' := W) (by rw [hW]; exact (Fr.refl _ _ _).drew)
                    have hbW := kW.has (by simp) hbk
                    obtain ⟨f0, f1, f2⟩ : _ ∧ _ ∧ _ := ⟨hbW.cell 0, hbW.cell 1, hbW.cell 2⟩
                    obtain ⟨blk, o, rfl, y0⟩ := hnk W sW.wh.frame k hlt
                    have hcr := rset_any W r G' _ sW.rf hRl a names[k]
                    rw [setV_snoc, ← List.take_succ_eq_append_getElem hlt] at hcr
                    clear hW sk kW hbk e0 e1 e2
                    obtain ⟨sx, hsx⟩ : ∃ sx : ByteArray, KV names[k] = .string sx := ⟨_, rfl⟩
                    rw [hsx] at hcr y0
                    simp only [List.take_succ_cons, List.take_zero, List.drop_succ_cons, List.drop_zero]
                    iterate 8 (refine wpStill_step (fun K hK => ?_); go_simp; refine hK _ ?_; clear hK K)
                    refine wpStill_nil ?_
                    go_wp2_with (go_at_call 14; (refine hcr.mono ?_); rintro e w6 ⟨rfl, n6, f6⟩)
                    obtain ⟨G6, hR6, hG6⟩ := n6.is
                    obtain ⟨s6, k6⟩ := sW.ref hR6 (f6.mono (Nat.le_refl _) (fun q hq _ => by simp at hq; subst hq; exact sW.rf.self)) (fun q hq => by
                      rcases hG6 q hq with rfl | h9
                      · exact .inl sW.rf.self
                      · exact .inr h9)
                    exact ⟨⟨k + 1, G6, by omega, by go_num, s6, k6.has (by simp) hbW⟩, by simp [intOf]; omega⟩
                  · obtain rfl : k = names.length := by omega
                    rw [List.take_length] at sk
                    go_wp2
                    go_meet
                    case rel =>
                      have := setV_le a names L
                      exact ⟨G', _, _, sk, hbk, by omega, by omega, by omega⟩
              · -- Due
                have c27 := at_due st4.wh (by omega) a
                have hdl := dueR_le a L.length L
                have c28 := fun W G' (h : RIs W r G' L) => rdue_any W r G' L h (by omega) a
                obtain ⟨E, hE⟩ : ∃ E, dueR a L.length L = E := ⟨_, rfl⟩
                rw [hE] at c27 hdl
                simp only [hE] at c28
                clear hE
                go_upto_region 28 with (go_at_call 10; (refine c27.mono ?_); rintro e w5 ⟨A5, c5, rfl, o5, h5, p5⟩)
                have st5 : PlSt w w5 g r G (rowB A5 ++ [bo]) n (cutV L E) L := by
                  have hd : ∀ k ∈ rowB A5, k ∉ G := fun k hk hkG => by
                    rcases o5 with ⟨rfl, _⟩ | ⟨b5, cs5, rfl, r1, _⟩
                    · simp [rowB] at hk
                    · simp [rowB] at hk
                      have := st4.rf.lt k hkG
                      omega
                  refine ⟨h5.drop fun k hk => ?_, st4.rf.kp p5 (fun q hq => List.mem_append_left _ hq) (fun q hq => h5.klt q (List.mem_append_right _ (List.mem_append_left _ hq))), st4.lo, fun k hk => ?_⟩
                  · simp only [List.mem_append] at hk ⊢
                    rcases hk with hk | hk | hk
                    · exact .inr (.inl hk)
                    · exact .inl hk
                    · exact .inr (.inr hk)
                  · rcases List.mem_append.1 hk with hk | hk
                    · exact hd k hk
                    · exact st4.dis k hk
                have hb5 := p5.has (by simp) hbo
                have hbl5 : w.heap.size ≤ wc.heap.size := st4.wh.lo
                clear c27 h5 p5 st4 hbo e0 e1 e2 hfr0
                obtain ⟨f0, f1, f2⟩ : _ ∧ _ ∧ _ := ⟨hb5.cell 0, hb5.cell 1, hb5.cell 2⟩
                have c28' := c28 w5 G st5.rf
                have hAr : ∀ W : World, OutRow W wc.heap.size A5 c5 E → ARow W W.heap.size A5 (E.map KV) := fun W h => by
                  rcases h with ⟨_, _, rfl⟩ | ⟨b5, cs5, rfl, r1, r2, r3, _⟩
                  · exact .inl rfl
                  · have := arow_str r2 r3 E.length
                    rw [List.take_length] at this
                    exact this
                go_upto_region 29 with (first
                  | (go_at_call 11
                     refine hsame.mono ?_
                     rintro e w7 ⟨rfl, q7, rfl⟩)
                  | (go_at_call 12
                     refine c28'.mono ?_
                     rintro e w6 ⟨v6, G6, rfl, o6, hR6, f6, hG6⟩
                     obtain ⟨A6, c6, rfl⟩ := own_slice o6
                     obtain ⟨st6, k6⟩ := st5.ref hR6 f6 hG6
                     have o56 := k6.out o5 (fun b o he => by subst he; simp [rowB])
                     have hsame := same_any w6 A5 A6 c5 c6 E (by omega) (hAr _ o56) (by obtain ⟨A6', c6', he6, hr6⟩ := own_arow o6; injection he6 with he6; subst he6; exact hr6)))
                obtain ⟨st7, k7⟩ := st6.fr ((Fr.refl w6.heap.size [] w6).drewN q7)
                have o7 := k7.out o56 (fun b o he => by subst he; simp [rowB])
                have hb7 := k7.has (by simp) (k6.has (by simp) hb5)
                generalize w6.drewN q7 = w7 at st7 o7 hb7 ⊢
                clear c28' c28 hAr hsame st5 hb5 f0 f1 f2 o5 st6 k6 o56 k7 hR6 f6 hG6 o6
                go_wp2
                go_loopw [12] (fun s12 wr => ∃ k : Nat, k ≤ E.length ∧ s12 = .int .i64 (k : Int) ∧ PlSt w wr g r G6 (rowB A5 ++ [bo]) n (cutV L E) (cutV L E) ∧ Has wr bo 32 [.int .i64 kind, .int .i64 a, .slice An names.length cn] ∧ (E = [] ∨ ∃ b5 cs5, A5 = some ⟨b5, 0, none⟩ ∧ wc.heap.size ≤ b5 ∧ b5 ≠ bo ∧ Has wr b5 9 cs5 ∧ E.length ≤ cs5.length ∧ E.length ≤ c5)) (fun s12 _ => E.length - (intOf s12).toNat)
                case atStart =>
                  refine ⟨0, by omega, rfl, st7, hb7, ?_⟩
                  rcases o7 with ⟨_, _, rfl⟩ | ⟨b5, cs5, rfl, r1, r2, r3, r4, r5, r6⟩
                  · exact .inl rfl
                  · exact .inr ⟨b5, cs5, rfl, r1, fun e => by subst e; exact absurd (r2.ne hb7 (by decide)) (by simp), r2, by omega, r4⟩
                case round =>
                  obtain ⟨k, hk, rfl, sk, hbk, hrow⟩ := hrel
                  by_cases hlt : k < E.length
                  · have hki : (k : Int) < E.length := by omega
                    have hk0 : (0 : Int) ≤ k := by omega
                    rcases hrow with rfl | ⟨b5, cs5, rfl, r1, r2, r3, r4, r5⟩
                    · simp at hlt
                    · have y0 : wr.cell? ⟨b5, k, none⟩ = some (cs5[k]'(by omega)) := by rw [r3.cell]; exact List.getElem?_eq_getElem (by omega)
                      have z0 := r3.frozen k
                      have ho := (One.refl b5 wr).setCell k (.string ⟨#[109, 105, 110, 101]⟩)
                      go_wp2
                      refine ⟨⟨k + 1, by omega, by go_num, sk.write (b := b5) (by simp [rowB]) (by omega) ho, hbk.one ho (Ne.symm r2), .inr ⟨b5, _, rfl, r1, r2, r3.set k _, by simpa using r4, r5⟩⟩, by simp [intOf]; omega⟩
                  · obtain rfl : k = E.length := by omega
                    go_wp2
                    go_meet
                    case rel =>
                      have := cutV_le L E
                      exact ⟨G6, _, _, sk.drop (by simp), hbk, by omega, by omega, by omega⟩
          · -- Cancel
            go_wp2
            go_loopw [8, 9] (fun s8 s9 wr => ∃ (k : Nat) (G' : List Nat), k ≤ names.length ∧ s9 = .int .i64 (k : Int) ∧ s8 = .int .i64 ((L.length : Int) - (cutV L (names.take k)).length) ∧ PlSt w wr g r G' [bo] n L (cutV L (names.take k)) ∧ Has wr bo 32 [.int .i64 kind, .int .i64 a, .slice An names.length cn]) (fun _ s9 _ => names.length - (intOf s9).toNat)
            case atStart => exact ⟨0, G, by omega, rfl, by rw [List.take_zero, cutV_nil, Int.sub_self], by rw [List.take_zero, cutV_nil]; exact st4, hbo⟩
            case round =>
              obtain ⟨k, G', hk, rfl, rfl, sk, hbk⟩ := hrel
              obtain ⟨f0, f1, f2⟩ : _ ∧ _ ∧ _ := ⟨hbk.cell 0, hbk.cell 1, hbk.cell 2⟩
              have hRl := cutV_le L (names.take k)
              by_cases hlt : k < names.length
              · have hki : (k : Int) < names.length := by omega
                obtain ⟨blk, o, rfl, y0⟩ := hnk wr sk.wh.frame k hlt
                have hcr := rcancel_any wr r G' _ sk.rf (by omega) names[k]
                rw [cutV_snoc, ← List.take_succ_eq_append_getElem hlt] at hcr
                have hRl2 := cutV_le L (names.take (k + 1))
                obtain ⟨sx, hsx⟩ : ∃ sx : ByteArray, KV names[k] = .string sx := ⟨_, rfl⟩
                rw [hsx] at hcr y0
                obtain ⟨l0, hl0⟩ : ∃ l0, (cutV L (names.take k)).length = l0 := ⟨_, rfl⟩
                obtain ⟨l1, hl1⟩ : ∃ l1, (cutV L (names.take (k + 1))).length = l1 := ⟨_, rfl⟩
                rw [hl0] at hcr hRl ⊢
                rw [hl1] at hcr hRl2
                have hw : IntKind.i64.wrap ((L.length : Int) - l0 + ((l0 : Int) - l1)) = (L.length : Int) - l1 := by rw [show (L.length : Int) - l0 + ((l0 : Int) - l1) = (L.length : Int) - l1 by omega]; exact IntWalk.i64_in _ (by omega)
                go_wp2_with (go_at_call 8; (refine hcr.mono ?_); rintro e w6 ⟨rfl, n6, f6⟩)
                obtain ⟨G6, hR6, hG6⟩ := n6.is
                obtain ⟨s6, k6⟩ := sk.ref hR6 (f6.mono (Nat.le_refl _) (fun q hq _ => by simp at hq; subst hq; exact sk.rf.self)) (fun q hq => by
                  rcases hG6 q hq with rfl | h9
                  · exact .inl sk.rf.self
                  · exact .inr h9)
                exact ⟨⟨k + 1, G6, by omega, by go_num, by rw [hl1], s6, k6.has (by simp) hbk⟩, by simp [intOf]; omega⟩
              · obtain rfl : k = names.length := by omega
                rw [List.take_length] at sk hRl ⊢
                have hcc := at_cancel sk.wh (by omega) An cn names (hnr _ sk.wh.frame) (fun hne blk o he => .inr (hnB hne blk o he)) (by omega)
                obtain ⟨z, hz⟩ : ∃ z : Int, (L.length : Int) - (cutV L names).length = z := ⟨_, rfl⟩
                rw [hz] at hcc ⊢
                have hzz : (z == z) = true := by simp
                go_wp2_with (go_at_call 9; (refine hcc.mono ?_); rintro e w6 ⟨rfl, h6, p6⟩)
                go_meet
                case rel =>
                  obtain ⟨s6, k6⟩ := sk.wheel h6 p6
                  exact ⟨G', _, _, s6, k6.has (by simp) hbk, by omega, by omega, by omega⟩
      case rest =>
        obtain ⟨G1, n1, L1, st1, hb1, hn2, hn3, hL2⟩ := hcut
        clear st4 hbo hn0 hn1 hL
        have c35 := at_next st1.wh (by omega)
        have hL9 : L1.length ≤ 1000000000 := by omega
        obtain ⟨m, hm⟩ : ∃ m, nextR L1 = m := ⟨_, rfl⟩
        obtain ⟨b, hb⟩ : ∃ b, decide (L1 ≠ []) = b := ⟨_, rfl⟩
        have c36 := fun W (h : RIs W r G1 L1) => rnext_any W r G1 L1 h hL9
        rw [hm, hb] at c35
        simp only [hm, hb] at c36
        have hmm : (m == m) = true := by simp
        have hbb : (b == b) = true := by simp
        clear hm hb
        go_upto_region 36 with (go_at_call 15; (refine c35.mono ?_); rintro e w5 ⟨rfl, h5, p5⟩)
        obtain ⟨st5, k5⟩ := st1.wheel h5 p5
        have hb5 := k5.has (by simp) hb1
        clear c35 h5 p5 k5 st1 hb1
        have c36' := c36 w5 st5.rf
        go_upto_region 37 with (go_at_call 16; (refine c36'.mono ?_); rintro e w6 ⟨rfl, f6, -⟩)
        obtain ⟨st6, k6⟩ := st5.fr f6
        have hb6 := k6.has (by simp) hb5
        clear c36 c36' f6 k6 st5 hb5
        obtain ⟨Wd, hWd⟩ : ∃ Wd, Hid (Wd = w6.drew) := ⟨_, rfl⟩
        obtain ⟨st7, k7⟩ := st6.fr (W' := Wd) (by rw [hWd.out]; exact (Fr.refl _ _ _).drew)
        have hb7 := k7.has (by simp) hb6
        obtain ⟨A7, c7, y7, -⟩ := st7.rf.read
        have cl := at_len st7.wh
        have hll : (L1.length == L1.length) = true := by simp
        have hll2 : ((L1.length : Int) == (L1.length : Int)) = true := by simp
        clear st6 hb6 k7
        have hrd : ∀ W, W = Wd → W.cell? ⟨r, 0, none⟩ = some (.slice A7 L1.length c7) ∧ True := fun W hW => by rw [hW]; exact ⟨y7, trivial⟩
        refine wp_region_class (fun W => W = Wd) (by kernel_rfl) (by kernel_rfl) (by rw [hWd.out]) ?_
        repeat
          first
            | (refine wpQuiet_skip (by rfl) ?_; try simp only [Act.put, List.setIfInBounds_toArray, List.set_cons_zero, List.set_cons_succ])
            | (refine wpQuiet_take (by rfl) ?_
               apply Exists.intro
               refine ⟨fun W hW => ?_, ?_⟩
               · first
                   | ((obtain ⟨t0, -⟩ := hrd _ hW; go_simp); done)
                   | ((obtain ⟨t0, -⟩ := hrd _ hW; go_simp; exact rfl); done)
                   | (go_simp; done)
                   | (go_simp; exact rfl)
                   | (go_simp; (try refine ⟨rfl, ?_⟩); (go_at_call 17; subst hW; exact cl.mono fun e w' ⟨he, hw⟩ => ⟨he, hw.symm⟩); done)
               try simp only [Act.put, List.setIfInBounds_toArray, List.set_cons_zero, List.set_cons_succ])
        refine wpQuiet_nil ?_
        intro wq hq
        subst hq
        clear hrd cl y7 hWd
        have hnk : ∀ W : World, Fr w.heap.size [] w W → ∀ k (hk : k < names.length), ∃ blk o, An = some ⟨blk, o, none⟩ ∧ W.cell? ⟨blk, o + k, none⟩ = some (KV names[k]) := fun W hf k hk => by
          obtain ⟨blk, o, h1, h2, h3⟩ := name_of hnm k hk
          exact ⟨blk, o, h1, (hf.cell (p := ⟨blk, o + k, none⟩) h2 (by simp)).trans h3⟩
        go_wp2
        go_loopw [18] (fun s18 wr => ∃ k : Nat, k ≤ names.length ∧ s18 = .int .i64 (k : Int) ∧ PlSt w wr g r G1 [bo] n1 L1 L1 ∧ Has wr bo 32 [.int .i64 kind, .int .i64 a, .slice An names.length cn]) (fun s18 _ => names.length - (intOf s18).toNat)
        case atStart => exact ⟨0, by omega, rfl, st7, hb7⟩
        case round =>
          obtain ⟨k, hk, rfl, sk, hbk⟩ := hrel
          obtain ⟨f0, f1, f2⟩ : _ ∧ _ ∧ _ := ⟨hbk.cell 0, hbk.cell 1, hbk.cell 2⟩
          by_cases hlt : k < names.length
          · have hki : (k : Int) < names.length := by omega
            obtain ⟨blk, o, rfl, y0⟩ := hnk wr sk.wh.frame k hlt
            have c42 := at_at sk.wh names[k]
            have c43 := fun W (h : RIs W r G1 L1) => rat_any W r G1 L1 h hL9 names[k]
            obtain ⟨sx, hsx⟩ : ∃ sx : ByteArray, KV names[k] = .string sx := ⟨_, rfl⟩
            obtain ⟨v, hv⟩ : ∃ v, (getL L1 names[k]).getD 0 = v := ⟨_, rfl⟩
            obtain ⟨u, hu⟩ : ∃ u, (getL L1 names[k]).isSome = u := ⟨_, rfl⟩
            rw [hsx] at y0
            rw [hsx, hv, hu] at c42
            simp only [hsx, hv, hu] at c43
            replace hsx : Hid (KV names[k] = .string sx) := hsx
            clear hv hu
            have hvv : (v == v) = true := by simp
            have huu : (u == u) = true := by simp
            go_upto_region 43 with (go_at_call 18; (refine c42.mono ?_); rintro e w8 ⟨rfl, h8, p8⟩)
            obtain ⟨s8, k8⟩ := sk.wheel h8 p8
            have hb8 := k8.has (by simp) hbk
            obtain ⟨g0, g1, g2⟩ : _ ∧ _ ∧ _ := ⟨hb8.cell 0, hb8.cell 1, hb8.cell 2⟩
            obtain ⟨blk', o', he', y8⟩ := hnk w8 s8.wh.frame k hlt
            injection he' with he'
            injection he' with he1 he2
            subst he1 he2
            have y8' : w8.cell? ⟨blk, o + k, none⟩ = some (.string sx) := by rw [y8, hsx.out]
            clear y8 y0 f0 f1 f2
            have c43' := c43 w8 s8.rf
            go_wp2_with (go_at_call 19; (with_reducible refine c43'.mono ?_); rintro e w9 ⟨rfl, rfl⟩)
            exact ⟨⟨k + 1, by omega, by go_num, s8, hb8⟩, by simp [intOf]; omega⟩
          · obtain rfl : k = names.length := by omega
            go_wp2
            exact ⟨⟨i + 1, G1, n1, L1, by omega, by omega, by go_num, sk.drop (by simp), hn2, hn3, hL2⟩, by simp [intOf]; omega⟩
    · have hend : i = ops.length ∨ (i < ops.length ∧ i = 100) := by omega
      have hgo2 : ∃ b : Bool, (decide (i < ops.length) = b) ∧ (b = true → i = 100) := by
        rcases hend with h | h
        · exact ⟨false, by simp; omega, by simp⟩
        · exact ⟨true, by simp; omega, fun _ => h.2⟩
      obtain ⟨b, hb, hb100⟩ := hgo2
      have hfr := st.wh.frame
      cases b
      case false =>
        clear hb100
        go_wp2
        go_ret
        exact ⟨rfl, hfr⟩
      case true =>
        (have h60 := hb100 rfl; have h61 : decide (i < 100) = false := decide_eq_false (by omega); have h62 : decide ((i : Int) < 100) = false := decide_eq_false (by omega); clear h60 hb100)
        go_wp2
        go_ret
        exact ⟨rfl, hfr⟩
end Go.Proofs.Ytkclpkepmckjgaa
