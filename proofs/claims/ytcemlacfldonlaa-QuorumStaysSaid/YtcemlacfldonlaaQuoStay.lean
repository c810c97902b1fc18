/- QuorumStays: the walk, on. -/
import Derived.Test.YtcemlacfldonlaaQuoStayQ
namespace Go.Proofs.Ytcemlacfldonlaa
open Go.RowKit
open Ck
set_option linter.unusedSimpArgs false
theorem hasN_snoc {α : Type} (key : α → Int) (fs : List α) (x : α) (n : Int) : hasN key (fs ++ [x]) n = (hasN key fs n || decide (key x = n)) := by simp [hasN]
set_option maxHeartbeats 20000000 in
set_option maxRecDepth 100000 in
theorem stays_law (w : World) (need prime : Int) (A B : Option Addr) (ca cb : Nat) (ts : List (Int × Int)) (os : List OpC) (hA : ARow w w.heap.size A (ts.flatMap PT)) (hca : ts.length ≤ ca) (hB : ARow w w.heap.size B (os.flatMap OpC.cells)) :
    Calls Try.prog 3 #[.slice A ts.length ca, .agg #[.int .i64 need, .int .i64 prime], .slice B os.length cb] w fun e w' => e = .returned (.bool true) ∧ Fr w.heap.size [] w w' := by
  obtain ⟨i0, hi, hz0, hz1, hz2⟩ : ∃ i, Try.prog.info? 39 = some i ∧ i.zero = some (.agg #[.int .i64 0, .int .i64 0, .int .i64 0, .slice none 0 0, .slice none 0 0, .slice none 0 0]) ∧ i.size = 6 ∧ i.bytes = 96 := by
    have h := infoOp
    cases hi : Try.prog.info? 39 with
    | none => rw [hi] at h; cases h
    | some i0 =>
      rw [hi] at h
      simp only [Option.map_some, Option.some.injEq, Prod.mk.injEq] at h
      exact ⟨i0, rfl, h.1, h.2.1, h.2.2⟩
  have V0 := Has.new w 24 [.int .i64 need, .int .i64 prime]
  have f0 := (Fr.refl w.heap.size [] w).alloc (Nat.le_refl _) (.cells #[.int .i64 need, .int .i64 prime] 24)
  go_enter Try.func3, Try.ntmps3
  go_upto_region 2 with (go_at_call 5; (with_reducible refine (awake_any _).mono ?_); rintro e w1 ⟨rfl, f1⟩)
  have V1 := V0.fr f1 V0.lt (by simp)
  have E1 := f0.into f0.size f1 (by simp)
  clear V0 f0 f1
  go_upto_if 21 with fail
  go_cut [0] from 21 to 23 (fun s wc => (∃ ts' : List (Int × Int), s = .slice A ts'.length ca ∧ ts'.length ≤ 20 ∧ Hid (ARow w w.heap.size A (ts'.flatMap PT))) ∧ wc = w1)
  case first =>
    by_cases h1 : 20 < ts.length
    · have h1i : (20 : Int) < ts.length := by omega
      have hci : (20 : Int) ≤ ca := by omega
      have hcn : 20 ≤ ca := by omega
      obtain ⟨blk, o, rfl, hbk, hc⟩ := hA.at (c := 2) (fun _ => rfl) (by decide) 0 (by omega)
      clear hc
      go_wp2
      go_meet
      exact ⟨⟨ts.take 20, by rw [List.length_take, Nat.min_eq_left (by omega)], by rw [List.length_take]; omega, Lib.hid (arow_take hA 20)⟩, rfl⟩
    · have h1i : ¬ ((20 : Int) < ts.length) := by omega
      go_wp2
      go_meet
      exact ⟨⟨ts, rfl, by omega, Lib.hid hA⟩, rfl⟩
  case rest =>
  obtain ⟨⟨ts', rfl, ht20, hA'⟩, hw1⟩ := hcut
  subst wc
  have x0 := V1.cell 0
  have x1 := V1.cell 1
  have hA1 := ((hA'.out).fr E1 (Nat.le_refl _) (by simp)).mono E1.size
  have hn1 := new_any w1 A ca ts' need prime hA1 (by omega)
  have hnod := newL_nod ts'
  have hsaid := newl_said ts'
  have hlen := newl_len ts'
  obtain ⟨L0, hL0⟩ : ∃ L, newL ts' = L := ⟨_, rfl⟩
  rw [hL0] at hn1 hnod hsaid hlen
  go_upto_region 5 with (go_at_call 6; (with_reducible refine hn1.mono ?_); rintro e w2 ⟨rfl, F1, T1, f2, hG1⟩)
  have V2 := V1.fr f2 V1.lt (by simp)
  have x2 := V2.cell 0
  have x3 := V2.cell 1
  have hn2 := new_any w2 A ca ts' need prime ((hA1.fr f2 (Nat.le_refl _) (by simp)).mono f2.size) (by omega)
  rw [hL0] at hn2
  have E2 := E1.into E1.size f2 (by simp)
  have hk1 : ∀ j ∈ F1, w.heap.size ≤ j := fun j hj => Nat.le_trans E1.size (hG1 j hj)
  obtain ⟨g1, hg1⟩ : ∃ g1, g1 = w1.heap.size := ⟨_, rfl⟩
  rw [← hg1] at T1 ⊢
  clear hg1 hG1 hn1 x0 x1 f2 E1 hA1 V1
  go_upto_region 6 with (go_at_call 6; (with_reducible refine hn2.mono ?_); rintro e w3 ⟨rfl, F2, O1, f3, hG2⟩)
  have E3 := E2.into E2.size f3 (by simp)
  have T2 := T1.fr0 f3
  have hk2 : ∀ j ∈ F2, w.heap.size ≤ j := fun j hj => Nat.le_trans E2.size (hG2 j hj)
  have hd : ∀ j ∈ F1, j ∉ F2 := fun j hj hm => by have := T1.lt j hj; have := hG2 j hm; omega
  obtain ⟨g2, hg2⟩ : ∃ g2, g2 = w2.heap.size := ⟨_, rfl⟩
  rw [← hg2] at O1 ⊢
  clear hg2 hG2 hn2 x2 x3 f3 E2 V2 T1 hA' hL0
  have hl0 : L0.length ≤ 1000000000 := by omega
  obtain ⟨v0, hv0⟩ : ∃ v, Hid (verdN need prime L0 = v) := ⟨_, rfl⟩
  go_upto_region 9 with (go_at_call 7; (with_reducible refine (verdC T2 hl0 hv0.out).mono ?_); rintro e w4 ⟨rfl, f4⟩)
  have S4 : SQ w g1 g2 F1 F2 need prime (LSt L0 []) L0 none 0 [] w4 := by
    rw [lst_nil hsaid]
    exact ⟨T2.fr0 f4, O1.fr0 f4, World.ownsRow_nil _ _ _ _, by simp [Value.ownBlock], E3.into E3.size f4 (by simp)⟩
  have hv4 : Hid (verdN need prime (LSt L0 []) = v0) := by rw [lst_nil hsaid]; exact hv0
  clear T2 O1 f4 E3 hv0
  go_wp2
  go_loopw [10, 11, 12] (fun v f i wr => ∃ (k : Nat) (A2 : Option Addr) (c2 : Nat) (fs : List OpC) (vv : Int), k ≤ os.length ∧ k ≤ 60 ∧ i = .int .i64 (k : Int) ∧ v = .int .i64 vv ∧ f = .slice A2 fs.length c2 ∧ Hid (fs = firsts OpC.node (os.take k)) ∧ Hid (verdN need prime (LSt L0 ((os.take k).map OpC.pr)) = vv) ∧ fs.length ≤ k ∧ SQ w g1 g2 F1 F2 need prime (LSt L0 ((os.take k).map OpC.pr)) L0 A2 c2 fs wr) (fun _ _ i _ => os.length - (intOf i).toNat)
  case atStart => exact ⟨0, none, 0, [], v0, by omega, by omega, rfl, rfl, rfl, Lib.hid rfl, hv4, by simp, S4⟩
  case round =>
    clear hv4 S4
    obtain ⟨k, A2, c2, fs, vv, hk, hk60, rfl, rfl, rfl, hfs, hvv, hfl, hS⟩ := hrel
    obtain ⟨ps, hps⟩ : ∃ ps, Hid (ps = (os.take k).map OpC.pr) := ⟨_, rfl⟩
    rw [← hps.out] at hS hvv
    go_upto_region 11 with fail
    go_cut [51] from 44 to 51 (fun s wc => s = .bool (decide (k < os.length ∧ k < 60)) ∧ wc = wr)
    case first =>
      by_cases h1 : k < os.length
      · have h1i : (k : Int) < os.length := by omega
        by_cases h2 : k < 60
        · have h2i : (k : Int) < 60 := by omega
          have hdd : decide (k < os.length ∧ k < 60) = true := decide_eq_true ⟨h1, h2⟩
          go_wp2
          go_meet
          exact ⟨by rw [hdd], rfl⟩
        · have h2i : ¬ ((k : Int) < 60) := by omega
          have hdd : decide (k < os.length ∧ k < 60) = false := decide_eq_false (fun h => h2 h.2)
          go_wp2
          go_meet
          exact ⟨by rw [hdd], rfl⟩
      · have h1i : ¬ ((k : Int) < os.length) := by omega
        have hdd : decide (k < os.length ∧ k < 60) = false := decide_eq_false (fun h => h1 h.1)
        go_wp2
        go_meet
        exact ⟨by rw [hdd], rfl⟩
    case rest =>
    obtain ⟨rfl, hwc⟩ := hcut
    subst wc
    by_cases hlt : k < os.length ∧ k < 60
    · rw [decide_eq_true hlt]
      obtain ⟨hlk, hl60⟩ := hlt
      have h1i : (k : Int) < os.length := by omega
      obtain ⟨ok, hok⟩ : ∃ o, Hid (os[k]'hlk = o) := ⟨_, rfl⟩
      obtain ⟨blk, o, rfl, hbk, hc⟩ := hB.at (c := 6) (fun _ => rfl) (by decide) k hlk
      rw [hok.out] at hc
      obtain ⟨kd, nd, kk, a1, n1, c1, a2, n2, c3, a3, n3, c4⟩ := ok
      have y0 := (hS.fr.cell (p := ⟨blk, o + k * 6 + 0, none⟩) hbk (by simp)).trans (hc 0 _ rfl)
      have y1 := (hS.fr.cell (p := ⟨blk, o + k * 6 + 1, none⟩) hbk (by simp)).trans (hc 1 _ rfl)
      have y2 := (hS.fr.cell (p := ⟨blk, o + k * 6 + 2, none⟩) hbk (by simp)).trans (hc 2 _ rfl)
      have y3 := (hS.fr.cell (p := ⟨blk, o + k * 6 + 3, none⟩) hbk (by simp)).trans (hc 3 _ rfl)
      have y4 := (hS.fr.cell (p := ⟨blk, o + k * 6 + 4, none⟩) hbk (by simp)).trans (hc 4 _ rfl)
      have y5 := (hS.fr.cell (p := ⟨blk, o + k * 6 + 5, none⟩) hbk (by simp)).trans (hc 5 _ rfl)
      simp only [Nat.add_zero] at y0
      have hfn : Hid (firsts OpC.node (os.take (k + 1)) = if hasN OpC.node fs nd = true then fs else fs ++ [⟨kd, nd, kk, a1, n1, c1, a2, n2, c3, a3, n3, c4⟩]) := by
        refine Lib.hid ?_
        rw [List.take_succ_eq_append_getElem hlk, firsts_snoc, hok.out, ← hfs.out]
      have hpn : Hid ((os.take (k + 1)).map OpC.pr = ps ++ [(if kd.tmod 2 = 0 then 1 else 2, nd)]) := by
        refine Lib.hid ?_
        rw [List.take_succ_eq_append_getElem hlk, List.map_append, hps.out, hok.out]
        rfl
      have hne := pr_ne (os.take k)
      rw [← hps.out] at hne
      replace hne : Hid (∀ p ∈ ps, p.1 ≠ 0) := Lib.hid hne
      clear hc hok hfs hps
      go_upto_region 14 with fail
      have V2 := Has.new wr 39 [.int .i64 kd, .int .i64 nd, .int .i64 kk, .slice a1 n1 c1, .slice a2 n2 c3, .slice a3 n3 c4]
      have S2 := hS.alloc (.cells #[.int .i64 kd, .int .i64 nd, .int .i64 kk, .slice a1 n1 c1, .slice a2 n2 c3, .slice a3 n3 c4] 39)
      have hob : ∀ j, (Value.slice A2 fs.length c2).ownBlock = some j → j < wr.heap.size := fun j hj => (hS.row.lt j hj).2
      obtain ⟨W2, hW2⟩ : ∃ W2, W2 = wr.alloc (.cells #[.int .i64 kd, .int .i64 nd, .int .i64 kk, .slice a1 n1 c1, .slice a2 n2 c3, .slice a3 n3 c4] 39) := ⟨_, rfl⟩
      rw [← hW2] at V2 S2 ⊢
      obtain ⟨b13, hb13⟩ : ∃ b, b = wr.heap.size := ⟨_, rfl⟩
      rw [← hb13] at V2 hob ⊢
      clear hW2 hb13 y0 y1 y2 y3 y4 y5 hS
      go_wp2
      go_loopw [14, 15] (fun th j wx => ∃ (q : Nat) (b : Bool), q ≤ fs.length ∧ j = .int .i64 (q : Int) ∧ th = .bool b ∧ Hid (b = hasN OpC.node (fs.take q) nd) ∧ SQ w g1 g2 F1 F2 need prime (LSt L0 ps) L0 A2 c2 fs wx ∧ Has wx b13 39 [.int .i64 kd, .int .i64 nd, .int .i64 kk, .slice a1 n1 c1, .slice a2 n2 c3, .slice a3 n3 c4]) (fun _ j _ => fs.length - (intOf j).toNat)
      case atStart => exact ⟨0, false, by omega, rfl, rfl, Lib.hid rfl, S2, V2⟩
      case round =>
        clear S2 V2
        obtain ⟨q, b, hq, rfl, rfl, hb, hS, V⟩ := hrel
        by_cases hqf : q < fs.length
        · have hqi : (q : Int) < fs.length := by omega
          have hq0 : (0 : Int) ≤ q := by omega
          obtain ⟨bl2, o2, rfl, z0, z1⟩ := hS.at q hqf
          have v1 := V.cell 1
          have hbs : Hid (hasN OpC.node (fs.take (q + 1)) nd = (b || decide (fs[q].node = nd))) := by
            refine Lib.hid ?_
            rw [List.take_succ_eq_append_getElem hqf, hasN_snoc, hb.out]
          obtain ⟨fn, hfq⟩ : ∃ fn, fs[q].node = fn := ⟨_, rfl⟩
          rw [hfq] at z1 hbs
          clear z0 hb hfq
          go_upto_region 18 with fail
          cases b
          · by_cases he : fn = nd
            · have he2 : (fn == nd) = true := by simp [he]
              have he3 : decide (fn = nd) = true := decide_eq_true he
              rw [he3] at hbs
              replace he : Hid (fn = nd) := Lib.hid he
              go_quiet (fail)
              go_wp2
              exact ⟨⟨q + 1, true, by omega, by go_num, rfl, Lib.hid hbs.out.symm, hS.drewN _, V.drewN _⟩, by simp [intOf]; omega⟩
            · have he2 : (fn == nd) = false := by simp [he]
              have he3 : decide (fn = nd) = false := decide_eq_false he
              rw [he3] at hbs
              replace he : Hid (¬ fn = nd) := Lib.hid he
              go_quiet (fail)
              go_wp2
              exact ⟨⟨q + 1, false, by omega, by go_num, rfl, Lib.hid hbs.out.symm, hS.drewN _, V.drewN _⟩, by simp [intOf]; omega⟩
          · clear v1 z1
            go_quiet (fail)
            go_wp2
            exact ⟨⟨q + 1, true, by omega, by go_num, rfl, Lib.hid (by rw [hbs.out]; simp), hS.drewN _, V.drewN _⟩, by simp [intOf]; omega⟩
        · obtain rfl : q = fs.length := by omega
          have hqi : ¬ ((fs.length : Int) < fs.length) := by omega
          rw [List.take_length] at hb
          rw [← hb.out] at hfn
          go_upto_if 76 with fail
          obtain ⟨W3, hW3⟩ : ∃ W3, W3 = wr := ⟨_, rfl⟩
          go_cut [11] from 76 to 80 (fun s wc => ∃ (A3 : Option Addr) (c5 : Nat) (fs' : List OpC), s = .slice A3 fs'.length c5 ∧ Hid (fs' = firsts OpC.node (os.take (k + 1))) ∧ fs'.length ≤ k + 1 ∧ SQ w g1 g2 F1 F2 need prime (LSt L0 ps) L0 A3 c5 fs' wc ∧ Has wc b13 39 [.int .i64 kd, .int .i64 nd, .int .i64 kk, .slice a1 n1 c1, .slice a2 n2 c3, .slice a3 n3 c4])
          case first =>
            cases b
            · replace hfn : Hid (firsts OpC.node (os.take (k + 1)) = fs ++ [⟨kd, nd, kk, a1, n1, c1, a2, n2, c3, a3, n3, c4⟩]) := Lib.hid (by rw [hfn.out]; rfl)
              have v0 := V.cell 0
              have v1 := V.cell 1
              have v2 := V.cell 2
              have v3 := V.cell 3
              have v4 := V.cell 4
              have v5 := V.cell 5
              have hones : ∀ u ∈ ([.int .i64 kd, .int .i64 nd, .int .i64 kk, .slice a1 n1 c1, .slice a2 n2 c3, .slice a3 n3 c4] : List Value), u.oneCell' = true := by
                intro u hu
                simp only [List.mem_cons, List.not_mem_nil, or_false] at hu
                rcases hu with rfl | rfl | rfl | rfl | rfl | rfl <;> rfl
              have hs5 := hS.fr.size
              have hrow := hS.row
              have fr0 : Fr wr.heap.size (Value.slice A2 fs.length c2).ownBlock.toList wr (wr.alloc (.cells #[.int .i64 kd, .int .i64 nd, .int .i64 kk, .slice a1 n1 c1, .slice a2 n2 c3, .slice a3 n3 c4] 39)) := (Fr.refl _ _ _).alloc (Nat.le_refl _) _
              go_wp2_with (at_builtin; refine wpList_append_has (by rfl) (.tmp 77) (.tmp 79) 25 (by rfl) w.heap.size 39 i0 (.agg #[.int .i64 0, .int .i64 0, .int .i64 0, .slice none 0 0, .slice none 0 0, .slice none 0 0]) 6 96 Try.underlying25 hi hz0 hz1 hz2 rfl (by decide) _ fs.length _ (by rfl) (hrow.alloc _) wr.heap.size 1 [.int .i64 kd, .int .i64 nd, .int .i64 kk, .slice a1 n1 c1, .slice a2 n2 c3, .slice a3 n3 c4] (by rfl) (Has.new wr 39 _) rfl hones (by unfold maxLen; omega) (by omega) (by simp; omega) ?_; intro v' w6 hB6 hg6 hv6; obtain ⟨A3, c5, rfl⟩ := own_len hB6)
              go_meet
              have fr2 := fr0.grown hg6 (by simp) (fun q hq => .inl (by simp [hq]))
              have hb13 : b13 ∉ (Value.slice A2 fs.length c2).ownBlock.toList := fun hm => Nat.lt_irrefl _ (hob _ (Option.mem_toList.1 hm))
              have V6 := V.fr fr2 V.lt hb13
              have hlen : (fs ++ [(⟨kd, nd, kk, a1, n1, c1, a2, n2, c3, a3, n3, c4⟩ : OpC)]).length = fs.length + 1 := by simp
              refine ⟨A3, c5, fs ++ [⟨kd, nd, kk, a1, n1, c1, a2, n2, c3, a3, n3, c4⟩], by rw [hlen], Lib.hid hfn.out.symm, by rw [hlen]; omega, ⟨?_, ?_, ?_, ?_, ?_⟩, V6⟩
              · exact hS.t.fr fr2 (fun j hj => ⟨hS.t.lt j hj, fun hm => (hS.own j (Option.mem_toList.1 hm)).1 hj⟩)
              · exact hS.o.fr fr2 (fun j hj => ⟨hS.o.lt j hj, fun hm => (hS.own j (Option.mem_toList.1 hm)).2 hj⟩)
              · rw [hlen, List.flatMap_append]
                simpa [OpC.cells] using hB6
              · rw [hlen]
                intro j hj
                rcases hv6 with e | e
                · rw [e] at hj; exact hS.own j hj
                · rw [e] at hj
                  simp at hj
                  exact ⟨fun hm => by have := hS.t.lt j hm; omega, fun hm => by have := hS.o.lt j hm; omega⟩
              · exact hS.fr.trans (fr2.mono hs5 fun q hq hl => by
                  have := (hrow.lt q (Option.mem_toList.1 hq)).1
                  omega)
            · replace hfn : Hid (firsts OpC.node (os.take (k + 1)) = fs) := Lib.hid (by rw [hfn.out]; rfl)
              go_wp2
              go_meet
              exact ⟨A2, c2, fs, rfl, Lib.hid hfn.out.symm, by omega, hS, V⟩
          case rest =>
            clear hS V hb hfn hob hW3
            obtain ⟨A3, c5, fs', rfl, hfs, hfl2, hS, V⟩ := hcut
            have v0 := V.cell 0
            have v1 := V.cell 1
            have hl1 : (LSt L0 ps).length ≤ 1000000000 := by rw [lst_len]; exact hl0
            have hn1 := lst_nod hnod ps
            by_cases hm : kd.tmod 2 = 0
            · have hpn1 : Hid ((os.take (k + 1)).map OpC.pr = ps ++ [(1, nd)]) := Lib.hid (by rw [hpn.out, if_pos hm])
              have hsay : Hid (sayL 1 nd (LSt L0 ps) = LSt L0 (ps ++ [(1, nd)])) := Lib.hid (say_lst L0 1 nd ps hne.out)
              clear hpn
              have hl2 : (LSt L0 (ps ++ [(1, nd)])).length ≤ 1000000000 := by rw [lst_len]; exact hl0
              by_cases hz : vv = 0
              · have hz2 : (vv != 0) = false := by simp [hz]
                obtain ⟨v', hv'⟩ : ∃ v', Hid (verdN need prime (LSt L0 (ps ++ [(1, nd)])) = v') := ⟨_, Lib.hid rfl⟩
                replace hz : Hid (vv = 0) := Lib.hid hz
                go_wp2_with (first
                  | (go_at_call 7; (with_reducible refine (verdC S7.t hl2 hv'.out).mono ?_); rintro e w8 ⟨rfl, f8⟩; have S8 := S7.step f8)
                  | (go_at_call 8; (with_reducible refine (yesC hS.t hl1 hn1 nd rfl hsay.out).mono ?_); rintro e w7 ⟨rfl, T7, f7⟩; have S7 := hS.one hd hk1 T7 f7))
                exact ⟨⟨k + 1, A3, c5, fs', v', by omega, by omega, by go_num, rfl, rfl, hfs, Lib.hid (by rw [hpn1.out]; exact hv'.out), hfl2, by rw [hpn1.out]; exact S8⟩, by simp [intOf]; omega⟩
              · have hz2 : (vv != 0) = true := by simp [hz]
                have hv' : Hid (verdN need prime (LSt L0 (ps ++ [(1, nd)])) = vv) := Lib.hid (by rw [← hsay.out, verd_stays (by decide) (by rw [hvv.out]; exact hz)]; exact hvv.out)
                have hvn : (vv != vv) = false := by simp
                replace hz : Hid (¬ vv = 0) := Lib.hid hz
                go_wp2_with (first
                  | (go_at_call 7; (with_reducible refine (verdC S7.t hl2 hv'.out).mono ?_); rintro e w8 ⟨rfl, f8⟩; have S8 := S7.step f8)
                  | (go_at_call 8; (with_reducible refine (yesC hS.t hl1 hn1 nd rfl hsay.out).mono ?_); rintro e w7 ⟨rfl, T7, f7⟩; have S7 := hS.one hd hk1 T7 f7))
                exact ⟨⟨k + 1, A3, c5, fs', vv, by omega, by omega, by go_num, rfl, rfl, hfs, Lib.hid (by rw [hpn1.out]; exact hv'.out), hfl2, by rw [hpn1.out]; exact S8⟩, by simp [intOf]; omega⟩
            · have hpn1 : Hid ((os.take (k + 1)).map OpC.pr = ps ++ [(2, nd)]) := Lib.hid (by rw [hpn.out, if_neg hm])
              have hsay : Hid (sayL 2 nd (LSt L0 ps) = LSt L0 (ps ++ [(2, nd)])) := Lib.hid (say_lst L0 2 nd ps hne.out)
              clear hpn
              have hl2 : (LSt L0 (ps ++ [(2, nd)])).length ≤ 1000000000 := by rw [lst_len]; exact hl0
              have hm2 : (kd.tmod 2 == 0) = false := by simp [hm]
              replace hm : Hid (¬ kd.tmod 2 = 0) := Lib.hid hm
              by_cases hz : vv = 0
              · have hz2 : (vv != 0) = false := by simp [hz]
                obtain ⟨v', hv'⟩ : ∃ v', Hid (verdN need prime (LSt L0 (ps ++ [(2, nd)])) = v') := ⟨_, Lib.hid rfl⟩
                replace hz : Hid (vv = 0) := Lib.hid hz
                go_wp2_with (first
                  | (go_at_call 7; (with_reducible refine (verdC S7.t hl2 hv'.out).mono ?_); rintro e w8 ⟨rfl, f8⟩; have S8 := S7.step f8)
                  | (go_at_call 9; (with_reducible refine (noC hS.t hl1 hn1 nd rfl hsay.out).mono ?_); rintro e w7 ⟨rfl, T7, f7⟩; have S7 := hS.one hd hk1 T7 f7))
                exact ⟨⟨k + 1, A3, c5, fs', v', by omega, by omega, by go_num, rfl, rfl, hfs, Lib.hid (by rw [hpn1.out]; exact hv'.out), hfl2, by rw [hpn1.out]; exact S8⟩, by simp [intOf]; omega⟩
              · have hz2 : (vv != 0) = true := by simp [hz]
                have hv' : Hid (verdN need prime (LSt L0 (ps ++ [(2, nd)])) = vv) := Lib.hid (by rw [← hsay.out, verd_stays (by decide) (by rw [hvv.out]; exact hz)]; exact hvv.out)
                have hvn : (vv != vv) = false := by simp
                replace hz : Hid (¬ vv = 0) := Lib.hid hz
                go_wp2_with (first
                  | (go_at_call 7; (with_reducible refine (verdC S7.t hl2 hv'.out).mono ?_); rintro e w8 ⟨rfl, f8⟩; have S8 := S7.step f8)
                  | (go_at_call 9; (with_reducible refine (noC hS.t hl1 hn1 nd rfl hsay.out).mono ?_); rintro e w7 ⟨rfl, T7, f7⟩; have S7 := hS.one hd hk1 T7 f7))
                exact ⟨⟨k + 1, A3, c5, fs', vv, by omega, by omega, by go_num, rfl, rfl, hfs, Lib.hid (by rw [hpn1.out]; exact hv'.out), hfl2, by rw [hpn1.out]; exact S8⟩, by simp [intOf]; omega⟩
    · rw [decide_eq_false hlt]
      clear hlt
      have hw1 : IntKind.i64.wrap ((fs.length : Int) - 1) = (fs.length : Int) - 1 := IntWalk.i64_in _ (by omega)
      have hord : Hid (LSt L0 (fs.map OpC.pr).reverse = LSt L0 ps) := by
        refine Lib.hid ?_
        rw [hfs.out, hps.out]
        exact lst_order OpC.node OpC.pr (fun _ => rfl) L0 (os.take k)
      have hl1 : (LSt L0 ps).length ≤ 1000000000 := by rw [lst_len]; exact hl0
      clear hfs hps
      go_wp2
      obtain ⟨W5, hW5⟩ : ∃ W5, W5 = wr := ⟨_, rfl⟩
      rw [← hW5] at hS ⊢
      clear hW5
      go_loopw [17] (fun j wx => ∃ (m : Nat) (z : Int), m ≤ fs.length ∧ j = .int .i64 z ∧ z = (m : Int) - 1 ∧ SQ w g1 g2 F1 F2 need prime (LSt L0 ps) (LSt L0 ((fs.map OpC.pr).drop m).reverse) A2 c2 fs wx) (fun j _ => (intOf j + 1).toNat)
      case atStart =>
        refine ⟨fs.length, _, Nat.le_refl _, rfl, rfl, ?_⟩
        rw [List.drop_eq_nil_of_le (by simp), List.reverse_nil, lst_nil hsaid]
        exact hS
      case round =>
        clear hS
        obtain ⟨m, z, hm, rfl, hz, hS⟩ := hrel
        by_cases h0 : 0 < m
        · obtain ⟨q, rfl⟩ : ∃ q, m = q + 1 := ⟨m - 1, by omega⟩
          obtain rfl : z = (q : Int) := by omega
          clear hz h0
          have hqf : q < fs.length := by omega
          have hqi : (q : Int) < fs.length := by omega
          have hge : (0 : Int) ≤ q := by omega
          have hw2 : IntKind.i64.wrap ((q : Int) - 1) = (q : Int) - 1 := IntWalk.i64_in _ (by omega)
          obtain ⟨bl2, o2, rfl, z0, z1⟩ := hS.at q hqf
          have hdr : (fs.map OpC.pr).drop q = OpC.pr fs[q] :: (fs.map OpC.pr).drop (q + 1) := by
            rw [List.drop_eq_getElem_cons (by simpa using hqf), List.getElem_map]
          have hne : ∀ p ∈ ((fs.map OpC.pr).drop (q + 1)).reverse, p.1 ≠ 0 := fun p hp => pr_ne fs p (List.mem_of_mem_drop (List.mem_reverse.1 hp))
          have hl2 : (LSt L0 ((fs.map OpC.pr).drop (q + 1)).reverse).length ≤ 1000000000 := by rw [lst_len]; exact hl0
          have hn2 := lst_nod hnod ((fs.map OpC.pr).drop (q + 1)).reverse
          have hs1 := fun what => say_lst L0 what fs[q].node ((fs.map OpC.pr).drop (q + 1)).reverse hne
          have hdr2 : ((fs.map OpC.pr).drop q).reverse = ((fs.map OpC.pr).drop (q + 1)).reverse ++ [OpC.pr fs[q]] := by rw [hdr, List.reverse_cons]
          unfold OpC.pr at hdr2
          obtain ⟨ok, hok⟩ : ∃ ok, fs[q] = ok := ⟨_, rfl⟩
          rw [hok] at z0 z1 hs1 hdr2
          obtain ⟨kd, nd, kk, a1, n1, c1, a2, n2, c3, a3, n3, c4⟩ := ok
          simp only at z0 z1 hs1 hdr2
          have hs2 := hs1 1
          have hs3 := hs1 2
          replace hs2 := Lib.hid hs2
          replace hs3 := Lib.hid hs3
          have hdr3 := Lib.hid hdr2
          clear hdr hdr2 hs1 hok hne
          by_cases hmd : kd.tmod 2 = 0
          · go_wp2_with (go_at_call 8; (with_reducible refine (yesC hS.o hl2 hn2 nd rfl hs2.out).mono ?_); rintro e w7 ⟨rfl, T7, f7⟩; have S7 := hS.two hd hk2 T7 f7)
            refine ⟨⟨q, (q : Int) - 1, by omega, rfl, rfl, ?_⟩, by simp [intOf]⟩
            have := hdr3.out
            rw [if_pos hmd] at this
            unfold OpC.pr
            rw [this]
            exact S7
          · have hm2 : (kd.tmod 2 == 0) = false := by simp [hmd]
            replace hmd : Hid (¬ kd.tmod 2 = 0) := Lib.hid hmd
            go_wp2_with (go_at_call 9; (with_reducible refine (noC hS.o hl2 hn2 nd rfl hs3.out).mono ?_); rintro e w7 ⟨rfl, T7, f7⟩; have S7 := hS.two hd hk2 T7 f7)
            refine ⟨⟨q, (q : Int) - 1, by omega, rfl, rfl, ?_⟩, by simp [intOf]⟩
            have := hdr3.out
            rw [if_neg hmd.out] at this
            unfold OpC.pr
            rw [this]
            exact S7
        · obtain rfl : m = 0 := by omega
          obtain rfl : z = -1 := by omega
          clear hz
          rw [List.drop_zero, hord.out] at hS
          go_wp2_with (first
            | (go_at_call 7; (with_reducible refine (verdC S6.t hl1 hvv.out).mono ?_); rintro e w7 ⟨rfl, f7⟩; have S7 := S6.step f7)
            | (go_at_call 7; (with_reducible refine (verdC hS.o hl1 hvv.out).mono ?_); rintro e w6 ⟨rfl, f6⟩; have S6 := hS.step f6))
          go_ret
          exact ⟨rfl, S7.fr⟩
end Go.Proofs.Ytcemlacfldonlaa
