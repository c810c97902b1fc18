/- FilesSwaps: the walk. -/
import Derived.Test.YtcfbbembggnanaaFilSwapsP
import Derived.Deep.CutRange
namespace Go.Proofs.Ytcfbbembggnanaa
open Go.RowKit Go.Maps
set_option maxRecDepth 100000 in
set_option maxHeartbeats 16000000 in
theorem swaps_law (w : World) (A B C : Option Addr) (a b c : Nat) (ts : List (List UInt8)) (rs ps : List Int) (hA : ARow w w.heap.size A (ts.map strV)) (hB : ARow w w.heap.size B (rs.map (Value.int .i64))) (hC : ARow w w.heap.size C (ps.map (Value.int .i64)))
    (hb : ∀ s ∈ ts, s.length ≤ 140737488351232) (hl2 : ps.length ≤ c) (hl3 : ps.length ≤ 140737488351232) (hok : ∀ p ∈ ps, okI p) :
    Calls Try.prog 7 #[.slice A ts.length a, .slice B rs.length b, .slice C ps.length c] w fun e w' => e = .returned (.bool true) ∧ Fr w.heap.size [] w w' := by
  have e1 : appS ⟨16777216, 0, 0, true, []⟩ kf [[102, 105, 114, 115, 116]].flatten = (0, ⟨16777216, 0, 1, true, [(kf, ⟨[102, 105, 114, 115, 116], 0⟩)]⟩) := by decide
  have e2 : eachP firmP [kf] ⟨16777216, 0, 1, true, [(kf, ⟨[102, 105, 114, 115, 116], 0⟩)]⟩ = (0, ⟨16777216, 0, 2, true, [(kf, ⟨[102, 105, 114, 115, 116], 5⟩)]⟩) := by decide
  go_enter Try.func7, Try.ntmps7
  go_upto_region 2 with (go_at_call 9; (with_reducible refine (awake_any w).mono ?_); rintro e w1 ⟨rfl, f1⟩)
  have c2 := fat_new w1 16777216
  rw [show roomE 16777216 = 16777216 by decide] at c2
  go_upto_region 3 with (go_at_call 10; (with_reducible refine c2.mono ?_); rintro e w2 ⟨rfl, h2⟩)
  have h3 := h2.base f1.size f1
  obtain ⟨G, hG⟩ : ∃ G, G = w1.heap.size := ⟨_, rfl⟩
  rw [← hG] at h3 ⊢
  clear c2 h2 hG
  have c3 := fat_append_lit h3 (by decide) (by decide) (by decide) (by decide) kf 1 [[102, 105, 114, 115, 116]] (by decide) (by decide) (by decide)
  rw [e1] at c3
  go_upto_region 5 with (first
    | (go_at_call 12; (refine c4.mono ?_); rintro e w4 ⟨rfl, h5, -⟩)
    | (go_at_call 11; (refine c3.mono ?_); rintro e w3 ⟨rfl, h4, -⟩; have c4 := fat_sync_lit h4 ⟨by decide, by decide, by decide, by decide, by decide, by simp [okF]⟩ 1 [kf] (by decide); rw [e2] at c4))
  have hB5 : SwB 2 [102, 105, 114, 115, 116] ⟨16777216, 0, 2, true, [(kf, ⟨[102, 105, 114, 115, 116], 5⟩)]⟩ := ⟨rfl, by decide, by decide, by simp, by simp, by simp⟩
  clear c3 c4 e1 e2 h3 h4
  go_wp2
  go_loopw [9, 10] (fun z i wr => ∃ (k : Nat) (old : List UInt8) (S : FS), k ≤ ts.length ∧ k ≤ 40 ∧ i = .int .i64 (k : Int) ∧ z = strV old ∧ FAt w.heap.size [] w wr G S ∧ Hid (SwB (2 + 4 * k) old S) ∧ Hid (S.on = true)) (fun _ i _ => ts.length - (intOf i).toNat)
  case atStart => exact ⟨0, _, _, by omega, by omega, rfl, rfl, h5, Lib.hid hB5, Lib.hid rfl⟩
  case round =>
    obtain ⟨k, old, S, hk, hk40, rfl, rfl, hS, hF, hon⟩ := hrel
    have hfr := hS.frame
    obtain ⟨so, hso, zo⟩ := strV_ex old
    rw [hso]
    by_cases hlt : k < ts.length
    · have hki : (k : Int) < ts.length := by omega
      by_cases h40 : k < 40
      · obtain ⟨blk, o, rfl, hbk, t0⟩ := text_of hA k hlt
        have hsl : ts[k].length ≤ 140737488351232 := hb _ (List.getElem_mem _)
        obtain ⟨pc, hpc⟩ : ∃ pc, Hid (pc = ts[k]'hlt) := ⟨ts[k]'hlt, rfl⟩
        rw [← hpc.out] at t0 hsl
        obtain ⟨sp, hsp, zp⟩ := strV_ex pc
        rw [hsp] at t0
        obtain ⟨zl, hzl⟩ : ∃ zl : Int, (sp.size : Int) = zl := ⟨_, rfl⟩
        have hzl2 : zl = pc.length := by omega
        replace hzl2 : Hid (zl = pc.length) := hzl2
        clear zp
        have tr := (hfr.cell (p := ⟨blk, o + k, none⟩) hbk (by simp)).trans t0
        by_cases hbig : pc.length < 100000
        · have hd : decide (zl < 100000) = true := decide_eq_true (by have := hzl2.out; omega)
          replace hbig : Hid (pc.length < 100000) := hbig
          clear hA hb
          go_upto_if 54 with fail
          go_cut [] from 54 to 62 (fun wd => ∃ S1, FAt w.heap.size [] w wd G S1 ∧ SwB (2 + 4 * k) old S1 ∧ S1.on = true)
          case first =>
            by_cases hi : k < rs.length
            · have hii : (k : Int) < rs.length := by omega
              obtain ⟨bl2, o2, rfl, hb2, q0⟩ := num_of hB k hi
              obtain ⟨q, hq⟩ : ∃ q, rs[k] = q := ⟨_, rfl⟩
              rw [hq] at q0
              have q4 := (hfr.cell (p := ⟨bl2, o2 + k, none⟩) hb2 (by simp)).trans q0
              obtain ⟨m, hm⟩ : ∃ m, q.tmod 6 = m := ⟨_, rfl⟩
              have hm1 : -6 < m ∧ m < 6 := by rw [← hm]; exact ⟨Int.lt_tmod_of_pos q (by decide), Int.tmod_lt_of_pos q (by decide)⟩
              have hwm : IntKind.i64.wrap m = m := IntWalk.i64_in _ (by omega)
              have hwm1 : IntKind.i64.wrap (m - 1) = m - 1 := IntWalk.i64_in _ (by omega)
              have cM := fat_arm hS (m - 1) (by omega)
              clear hq q0 hB hC
              go_wp2_with (go_at_call 20; (with_reducible refine cM.mono ?_); rintro e w5 ⟨rfl, h5, -⟩)
              go_meet
              case rel => exact ⟨_, h5, hF.out.arm (by omega), hon.out⟩
            · have hii : ¬ ((k : Int) < rs.length) := by omega
              clear hB hC
              go_wp2
              go_meet
              case rel => exact ⟨S, hS, hF.out, hon.out⟩
          case rest =>
            obtain ⟨S1, h1, B1, o1⟩ := hcut
            have n1 := h1.nod
            have cL := fat_list h1 (by have := B1.len n1; omega) kn
            have ok1 := B1.ok n1 (by omega)
            clear hS hF hon hfr tr hB
            go_upto_if 66 with (go_at_call 18; (refine cL.mono ?_); rintro e w5 ⟨v, ls, rfl, o5, h5, -, -, hl⟩; obtain ⟨ns, hns, rfl⟩ := hl o1; obtain ⟨A', cp, rfl⟩ := own_slice o5)
            have hiff := sw_list hns B1.keys
            go_cut [] from 64 to 69 (fun wd => ∃ S2, FAt w.heap.size [] w wd G S2 ∧ SwB (3 + 4 * k) old S2 ∧ SwMid S2)
            case first =>
              obtain ⟨ln, hln⟩ : ∃ ln, (ns.filter (prefK kn)).length = ln := ⟨_, rfl⟩
              rw [hln] at hiff ⊢
              by_cases hne : 0 < ln
              · have hni : (0 : Int) < ln := by omega
                obtain ⟨er, S2, he2, B2, m2⟩ := B1.remove n1 o1 (hiff.1 hne)
                have cM := fat_remove_lit h5 ok1 1 [kn] (by simp)
                rw [he2] at cM
                clear hC cL hiff hln he2
                go_wp2_with (go_at_call 21; (refine cM.mono ?_); rintro e w6 ⟨rfl, h6, -⟩)
                go_meet
                case rel => exact ⟨S2, h6, B2.more (by omega), m2⟩
              · obtain rfl : ln = 0 := by omega
                have hnk : kn ∉ S1.P.map Prod.fst := fun hc => by have := hiff.2 hc; omega
                clear hC cL hiff hln
                go_wp2
                go_meet
                case rel => exact ⟨S1, h5, B1.more (by omega), .inr ⟨o1, hnk⟩⟩
            case rest =>
              obtain ⟨S2, h2, B2, m2⟩ := hcut
              have n2 := h2.nod
              have ok2 := B2.ok n2 (by omega)
              obtain ⟨av, S3, ha3, B3, m3⟩ := B2.app n2 m2 hbig.out
              have cA := fat_append_lit h2 ok2.room ok2.left ⟨ok2.steps.1, by have := ok2.steps.2; omega⟩ ok2.used kn 1 [pc] (by simp) (by simp) (by simp; omega)
              simp only [List.flatten_cons, List.flatten_nil, List.append_nil] at cA
              rw [ha3] at cA
              simp only [List.map_cons, List.map_nil, hsp, List.length_cons, List.length_nil, Nat.zero_add] at cA
              have t2 := (h2.frame.cell (p := ⟨blk, o + k, none⟩) hbk (by simp)).trans t0
              clear h1 B1 n1 cL ok1 hiff hns hl o5 h5 o1
              go_upto_region 14 with (go_at_call 11; (refine cA.mono ?_); rintro e w7 ⟨rfl, h7, -⟩)
              clear cA ha3 t2 h2
              have n3 := h7.nod
              obtain ⟨bv, S4, hb4, B4, m4⟩ := B3.sync n3 (text := pc) (by rcases m3 with ⟨_, q⟩ | ⟨_, q⟩; exact .inl q; exact .inr q)
              have cS := fat_sync_lit h7 (B3.ok n3 (by omega)) 1 [kn] (by simp)
              rw [hb4] at cS
              go_upto_region 15 with (go_at_call 12; (refine cS.mono ?_); rintro e w8 ⟨rfl, h8, -⟩)
              clear cS hb4 h7 m3
              have n4 := h8.nod
              obtain ⟨cv, S5, hc5, m5⟩ := B4.ren n4 hbig.out (by rcases m4 with ⟨_, q⟩ | ⟨_, q⟩; exact .inl q; exact .inr q)
              have cN := fat_rename h8 (B4.ok n4 (by omega)) kn kf
              rw [hc5] at cN
              go_upto_region 16 with (go_at_call 22; (refine cN.mono ?_); rintro e w9 ⟨rfl, h9, -⟩)
              clear cN hc5 h8 m4 n4 n3 n2 B3 B4 B2 m2 ok2
              go_cut [14] from 82 to 91 (fun s14 wd => ∃ dn : Bool, s14 = .bool dn ∧ (dn = true → cv = 0) ∧ wd = w9)
              case first =>
                obtain ⟨ba, hba⟩ : ∃ ba, (av == 0) = ba := ⟨_, rfl⟩
                obtain ⟨bb, hbb⟩ : ∃ bb, (bv == 0) = bb := ⟨_, rfl⟩
                clear hC
                rcases m5 with ⟨rfl, -⟩ | ⟨rfl, -⟩ <;> cases ba <;> cases bb
                all_goals
                  go_wp2
                  go_meet
                  case rel => exact ⟨_, rfl, by simp, rfl⟩
              case rest =>
                obtain ⟨dn, rfl, hdn, rfl⟩ := hcut
                rcases m5 with ⟨rfl, off, B5⟩ | ⟨rfl, on5, B5⟩
                · obtain rfl : dn = false := by cases dn; rfl; exact absurd (hdn rfl) (by decide)
                  have n5 := h9.nod
                  have ok5 := B5.ok n5 (by omega)
                  have cO := fat_on h9
                  rw [off] at cO
                  have hrow : ARow wc wc.heap.size C (ps.map (Value.int .i64)) := (hC.fr h9.frame (Nat.le_refl _) (by simp)).mono h9.lo
                  have cC := fat_crash h9 ok5.len ok5.files C c ps hrow (fun hne blk o e => .inr (by
                    rcases hC with h | ⟨blk2, o2, h1, h2, h3⟩
                    · simp at h; exact absurd h hne
                    · rw [h1] at e; injection e with e; injection e with e1 e2; omega)) hl2 (by omega) hok
                  clear hC hok hdn hrow
                  go_wp2_with (first
                    | (go_at_call 14; (refine cR.mono ?_); rintro e w12 ⟨rfl, h12, -⟩; have tz := (h12.frame.cell (p := ⟨blk, o + k, none⟩) hbk (by simp)).trans t0)
                    | (go_at_call 20; (refine cM.mono ?_); rintro e w11 ⟨rfl, h11, -⟩; have B11 := (B5.crash ns ps).arm (n := -1) (by decide); have rd := B11.read h11.nod rfl; have cR := fat_read h11 kf; rw [rd.1, rd.2, hso] at cR)
                    | (go_at_call 13; (refine cC.mono ?_); rintro e w10 ⟨ns, -, rfl, h10, -⟩; have cM := fat_arm h10 (-1) (by decide))
                    | (go_at_call 19; (refine cO.mono ?_); rintro e w9' ⟨rfl, rfl⟩))
                  exact ⟨⟨k + 1, old, _, by omega, by omega, by go_num, hso.symm, h12, Lib.hid (B11.more (by omega)), Lib.hid rfl⟩, by simp [intOf]; omega⟩
                · have cO := fat_on h9
                  rw [on5] at cO
                  have cM := fat_arm h9 (-1) (by decide)
                  have B11 := B5.arm (n := -1) (by decide)
                  have rd := fun hn => B11.read hn on5
                  obtain ⟨b1, hb1⟩ : ∃ b1, (sp.toList == so.toList) = b1 := ⟨_, rfl⟩
                  clear hC hok hdn
                  cases b1 <;> cases dn
                  all_goals
                    go_wp2_with (first
                      | (go_at_call 14; (refine cR.mono ?_); rintro e w12 ⟨rfl, h12, -⟩; have tz := (h12.frame.cell (p := ⟨blk, o + k, none⟩) hbk (by simp)).trans t0)
                      | (go_at_call 20; (refine cM.mono ?_); rintro e w11 ⟨rfl, h11, -⟩; have rd2 := rd h11.nod; have cR := fat_read h11 kf; rw [rd2.1, rd2.2, hsp] at cR)
                      | (go_at_call 19; (refine cO.mono ?_); rintro e w9' ⟨rfl, rfl⟩))
                    exact ⟨⟨k + 1, pc, _, by omega, by omega, by go_num, hsp.symm, h12, Lib.hid (B11.more (by omega)), Lib.hid on5⟩, by simp [intOf]; omega⟩
        · have hd : decide (zl < 100000) = false := decide_eq_false (by have := hzl2.out; omega)
          clear hbig
          go_wp2
          go_ret
          exact ⟨rfl, hfr⟩
      · obtain rfl : k = 40 := by omega
        go_wp2
        go_ret
        exact ⟨rfl, hfr⟩
    · obtain rfl : k = ts.length := by omega
      have hki : ¬ ((ts.length : Int) < ts.length) := by omega
      go_wp2
      go_ret
      exact ⟨rfl, hfr⟩
end Go.Proofs.Ytcfbbembggnanaa
