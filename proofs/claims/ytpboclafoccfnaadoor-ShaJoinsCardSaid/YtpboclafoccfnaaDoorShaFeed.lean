/- (*state).feed takes a block of 64 bytes in: the eight words at the receiver become those that the chapter reckons; nothing else that was there turns. -/
import Derived.Test.YtpboclafoccfnaaDoorProg
import Derived.Test.YtpboclafoccfnaaDoorShaRot
import Derived.Test.YtpboclafoccfnaaDoorBase
import Derived.Test.YtpboclafoccfnaaDoorShaHash
import Derived.Deep.QuietTactic
import Derived.BigQuiet
import Derived.Deep.RegionWith
import Derived.Deep.RegionLaw
import Derived.Deep.MidRow
import Derived.Laws.CopyOwn
import Derived.StillTailTactics
import Derived.Lib.Hide
import Derived.Deep.Cut
namespace Go.Proofs.YtpboclafoccfnaaDoor
open Go.RowKit
open Sha
theorem info29 : (Tryd.prog.info? 29).map (·.size) = some 1 := by kernel_rfl
set_option maxHeartbeats 1000000 in
set_option maxRecDepth 100000 in
theorem feed_any (w : World) (g : Nat) (st : St) (rest : List Value) (b : ByteArray) (hb : b.size = 64) (hs : Has w g 34 (st.vals ++ rest)) (hK : Kst w) :
    Calls Tryd.prog 22 #[.pointer (some ⟨g, 0, none⟩), .string b] w fun e w' => e = .returned (.tuple #[]) ∧ Has w' g 34 ((feed st (bl b)).vals ++ rest) ∧ Fr w.heap.size [g] w w' := by
  have HB := Lib.hid hb
  have hb1 : b.size ≤ 64 := by omega
  have hb2 : 64 ≤ b.size := by omega
  clear hb
  obtain ⟨KA, hKA⟩ : ∃ KA : List Value, Hid (KA = ks.map (Value.int .u32)) := ⟨_, rfl⟩
  have hgs := hs.lt
  have hk0 := hK.2
  go_enter Tryd.func22, Tryd.ntmps22
  go_wp2
  go_loopw [17, 5] (fun v i wr => ∃ k : Nat, k ≤ 16 ∧ v = .int .i64 k ∧ Has wr w.heap.size 44 (pad (first (bl b) k)) ∧ Fr w.heap.size [] w wr) (fun v _ _ => 16 - (intOf v).toNat)
  case atStart => exact ⟨0, by omega, rfl, Has.new w 44 (pad []), (Fr.refl _ _ _).alloc (Nat.le_refl _) _⟩
  case round =>
    obtain ⟨k, hk, rfl, hw, hf⟩ := hrel
    by_cases hlt : k < 16
    · have hc := hw.cellD k (by rw [pad_len _ (by rw [first_len]; omega)]; omega) undef
      have hz := hw.frozen k
      have i0 : (0 : Int) ≤ 4 * (k : Int) := by omega
      have i1 : (0 : Int) ≤ 4 * (k : Int) + 1 := by omega
      have i2 : (0 : Int) ≤ 4 * (k : Int) + 2 := by omega
      have i3 : (0 : Int) ≤ 4 * (k : Int) + 3 := by omega
      have j0 : 4 * (k : Int) < (b.size : Int) := by omega
      have j1 : 4 * (k : Int) + 1 < (b.size : Int) := by omega
      have j2 : 4 * (k : Int) + 2 < (b.size : Int) := by omega
      have j3 : 4 * (k : Int) + 3 < (b.size : Int) := by omega
      go_wp2
      go_region
      go_wp2
      go_roundw
      case rel =>
        have hs2 := hw.set k (.int .u32 (word (bl b) k))
        rw [show (pad (first (bl b) k)).set k (.int .u32 (word (bl b) k)) = pad (first (bl b) (k + 1)) by
          rw [first_succ]; have := pad_set (first (bl b) k) (word (bl b) k) (by rw [first_len]; omega); rw [first_len] at this; exact this] at hs2
        refine ⟨k + 1, by omega, by go_num, ?_, (hf.setCell (Or.inr (Nat.le_refl _)) _).drew⟩
        refine (Has.val hs2 ?_).drew
        unfold word
        rw [bl_get _ _ (by omega), bl_get _ _ (by omega), bl_get _ _ (by omega), bl_get _ _ (by omega)]
        exact (word_or _ _ _ _ (byte_rng _) (byte_rng _) (byte_rng _) (byte_rng _)).symm
      case measure => simp [intOf]; omega
    · have h16 : k = 16 := by omega
      rw [h16] at hw
      have H16 := Lib.hid h16
      have hge : 16 ≤ k := by omega
      clear h16
      obtain ⟨wo, rfl⟩ : ∃ wo : World, wo = wr := ⟨_, rfl⟩
      have hg : wo.heap.size ≥ w.heap.size := hf.size
      go_wp2
      go_loopw [6] (fun v wr => ∃ n : Nat, 16 ≤ n ∧ n ≤ 64 ∧ v = .int .i64 (n : Int) ∧ Has wr w.heap.size 44 (pad (more (first (bl b) 16) (n - 16))) ∧ Fr w.heap.size [] w wr) (fun v _ => 64 - (intOf v).toNat)
      case atStart => exact ⟨16, by omega, by omega, rfl, hw, hf⟩
      case round =>
        obtain ⟨n, hn0, hn, rfl, hw1, hf1⟩ := hrel
        by_cases hlt : n < 64
        · obtain ⟨L, HL⟩ : ∃ L, Hid (L = more (first (bl b) 16) (n - 16)) := ⟨_, rfl⟩
          have hL : L.length = n := by rw [HL.out, more_len, first_len]; omega
          rw [← HL.out] at hw1
          have hc15 : wr.cell? ⟨w.heap.size, n - 15, none⟩ = some (.int .u32 (L.getD (n - 15) 0)) := by rw [hw1.cell]; exact pad_get _ _ (by omega)
          have hc2 : wr.cell? ⟨w.heap.size, n - 2, none⟩ = some (.int .u32 (L.getD (n - 2) 0)) := by rw [hw1.cell]; exact pad_get _ _ (by omega)
          have hc16 : wr.cell? ⟨w.heap.size, n - 16, none⟩ = some (.int .u32 (L.getD (n - 16) 0)) := by rw [hw1.cell]; exact pad_get _ _ (by omega)
          have hc7 : wr.cell? ⟨w.heap.size, n - 7, none⟩ = some (.int .u32 (L.getD (n - 7) 0)) := by rw [hw1.cell]; exact pad_get _ _ (by omega)
          have hc0 := hw1.cellD n (by rw [pad_len _ (by omega)]; omega) undef
          have hz := hw1.frozen n
          have hL' := Lib.hid hL
          clear hL
          go_wp2
          go_quiet (fail)
          go_wp2
          refine region_still_tail 29 (by kernel_rfl) (by kernel_rfl) ?_
          intro W hW
          have hw2 : Has W w.heap.size 44 (pad L) := by rw [hW]; exact hw1
          have hf2 : Fr w.heap.size [] w W := by rw [hW]; exact (hf1.drewN _).drew
          have hc16 : W.cell? ⟨w.heap.size, n - 16, none⟩ = some (.int .u32 (L.getD (n - 16) 0)) := by rw [hW]; exact hc16
          have hc7 : W.cell? ⟨w.heap.size, n - 7, none⟩ = some (.int .u32 (L.getD (n - 7) 0)) := by rw [hW]; exact hc7
          have hc0 : W.cell? ⟨w.heap.size, n, none⟩ = some ((pad L).getD n undef) := by rw [hW]; exact hc0
          have hz : W.frozen? ⟨w.heap.size, n, none⟩ = false := by rw [hW]; exact hz
          clear hW
          have y1 : IntKind.i64.wrap ((n : Int) - 16) = (n : Int) - 16 := IntWalk.i64_in _ (by omega)
          have y2 : (0 : Int) ≤ (n : Int) - 16 := by omega
          have y3 : (n : Int) - 16 < 64 := by omega
          have y4 : ((n : Int) - 16).toNat = n - 16 := by omega
          have y5 : IntKind.i64.wrap ((n : Int) - 7) = (n : Int) - 7 := IntWalk.i64_in _ (by omega)
          have y6 : (0 : Int) ≤ (n : Int) - 7 := by omega
          have y7 : (n : Int) - 7 < 64 := by omega
          have y8 : ((n : Int) - 7).toNat = n - 7 := by omega
          have z1 : (16 : Int) ≤ n := by omega
          have z2 : (7 : Int) ≤ n := by omega
          have y9 : (n : Int) < 64 := by omega
          simp only [List.take_succ_cons, List.take_zero, List.drop_succ_cons, List.drop_zero]
          repeat (refine wpStill_step (fun K hK => ?_); go_simp; first | (refine hK _ ?_; clear hK K) | (refine ⟨_, rotl_still _ _ _ (by decide) (by decide), hK _ ?_⟩; clear hK K))
          try refine wpStill_nil ?_
          clear y1 y2 y3 y4 y5 y6 y7 y8 z1 z2
          go_wp2
          go_roundw
          case rel =>
            refine ⟨n + 1, by omega, by omega, by go_num, ?_, (hf2.setCell (Or.inr (Nat.le_refl _)) _)⟩
            have hs2 := hw2.set n (.int .u32 (nxt L n))
            have hL := hL'.out
            rw [show (pad L).set n (.int .u32 (nxt L n)) = pad (L ++ [nxt L n]) by rw [← hL]; exact pad_set L _ (by omega)] at hs2
            rw [show n + 1 - 16 = (n - 16) + 1 by omega]
            show Has _ _ _ (pad (more (first (bl b) 16) (n - 16) ++ [nxt (more (first (bl b) 16) (n - 16)) (more (first (bl b) 16) (n - 16)).length]))
            rw [← HL.out, hL]
            exact hs2.val (by simp only [nxt, s0, s1, List.getD_eq_getElem?_getD])
          case measure => simp [intOf]; omega
        · have h64 : n = 64 := by omega
          rw [h64] at hw1
          have hnge : 64 ≤ n := by omega
          clear h64 hf hw hg
          obtain ⟨w2, rfl⟩ : ∃ w2 : World, w2 = wr := ⟨_, rfl⟩
          have hst : Has w2 g 34 (st.vals ++ rest) := hs.fr hf1 hgs (by simp)
          have hr0 : w2.rangeAt g 0 st.vals := fun j v hv => by
            rw [Nat.zero_add, hst.cell, List.getElem?_append_left (by have := (List.getElem?_eq_some_iff.1 hv).1; exact this)]; exact hv
          have hKr : w2.rangeAt 0 0 KA := fun j v hv => by
            rw [hKA.out] at hv
            rw [hf1.cell (p := ⟨0, 0 + j, none⟩) hk0 (by simp)]; exact hK.1 j v hv
          have hr1 : w2.rangeAt g 0 [.int .u32 st.a, .int .u32 st.b, .int .u32 st.c, .int .u32 st.d, .int .u32 st.e, .int .u32 st.f, .int .u32 st.g, .int .u32 st.h] := hr0
          clear hr0
          have hlenK : (Tryd.prog.info? 44).map (·.size) = some KA.length := by rw [hKA.out]; kernel_rfl
          have hKr' : ∀ o : Obj, (w2.alloc o).rangeAt 0 0 KA := fun o => World.rangeAt_alloc hKr o
          go_wp2_with (first | (with_reducible refine wpList_load_mid rfl 31 (.tmp 94) rfl g 0 rfl [.int .u32 st.a, .int .u32 st.b, .int .u32 st.c, .int .u32 st.d, .int .u32 st.e, .int .u32 st.f, .int .u32 st.g, .int .u32 st.h] _ hr1 Tryd.underlying31 rfl (by kernel_rfl) ?_) | (with_reducible refine wpList_load_mid rfl 44 (.global 0) rfl 0 0 rfl KA _ (hKr' _) Tryd.underlying44 rfl hlenK ?_))
          obtain ⟨L, HL⟩ : ∃ L, Hid (L = sched (bl b)) := ⟨_, rfl⟩
          have hw1 : Has w2 w.heap.size 44 (pad L) := by rw [HL.out]; exact hw1
          have hLl : L.length = 64 := by rw [HL.out]; unfold sched; rw [more_len, first_len]
          have hgw := hw1.lt
          go_loopw [97] (fun v wr => ∃ m : Nat, m ≤ 64 ∧ v = .int .i64 (m : Int) ∧ Has wr w2.heap.size 31 (rounds st ks L m).vals ∧ Has wr w.heap.size 44 (pad L) ∧ Fr w.heap.size [] w wr) (fun v _ => 64 - (intOf v).toNat)
          case atStart => exact ⟨0, by omega, rfl, Has.new w2 31 st.vals, hw1.alloc _, hf1.alloc (by omega) _⟩
          case round =>
            obtain ⟨m, hm, rfl, hv, hx, hf2⟩ := hrel
            by_cases hlt : m < 64
            · obtain ⟨S, HS⟩ : ∃ S, Hid (S = rounds st ks L m) := ⟨_, rfl⟩
              rw [← HS.out] at hv
              have hix : ∀ W, (Instr.index 44 (.agg KA.toArray) (.int .i64 (m : Int))).run Tryd.prog W = .ok (.int .u32 (ks.getD m 0)) W := by
                obtain ⟨i29, hi29, hs29⟩ := Option.map_eq_some_iff.1 info29
                exact run_index_arr KA.toArray m _ Tryd.underlying44 hi29 hs29 Tryd.underlying29 rfl hlt (by
                  rw [hKA.out]
                  have hml : m < ks.length := hlt
                  simp only [List.getElem?_toArray, List.getElem?_map, List.getElem?_eq_getElem hml, List.getD_eq_getElem?_getD]
                  rfl)
              have hLl' := Lib.hid hLl
              clear hLl
              have c0 : wr.cell? ⟨w2.heap.size, 0, none⟩ = some (.int .u32 S.a) := hv.cell 0
              have c1 : wr.cell? ⟨w2.heap.size, 1, none⟩ = some (.int .u32 S.b) := hv.cell 1
              have c2 : wr.cell? ⟨w2.heap.size, 2, none⟩ = some (.int .u32 S.c) := hv.cell 2
              have c4 : wr.cell? ⟨w2.heap.size, 4, none⟩ = some (.int .u32 S.e) := hv.cell 4
              have c5 : wr.cell? ⟨w2.heap.size, 5, none⟩ = some (.int .u32 S.f) := hv.cell 5
              have c6 : wr.cell? ⟨w2.heap.size, 6, none⟩ = some (.int .u32 S.g) := hv.cell 6
              have c7 : wr.cell? ⟨w2.heap.size, 7, none⟩ = some (.int .u32 S.h) := hv.cell 7
              have cm : wr.cell? ⟨w.heap.size, m, none⟩ = some (.int .u32 (L.getD m 0)) := by rw [hx.cell]; exact pad_get _ _ (by rw [hLl'.out]; exact hlt)
              have bm : (m : Int) < 64 := by omega
              go_wp2
              go_quiet (fail)
              go_wp2
              go_quiet ((go_at_call 23; exact quiet_same (fun W => rotl_still _ _ W (by decide) (by decide))))
              go_wp2
              go_quiet ((go_at_call 23; exact quiet_same (fun W => rotl_still _ _ W (by decide) (by decide))))
              go_wp2
              refine region_still_tail 2 (by kernel_rfl) (by kernel_rfl) ?_
              intro W hW
              have hv1 : Has W w2.heap.size 31 S.vals := by rw [hW]; exact hv
              have hx1 : Has W w.heap.size 44 (pad L) := by rw [hW]; exact hx
              have hf3 : Fr w.heap.size [] w W := by rw [hW]; exact ((hf2.drewN _).drewN _).drew
              clear hW c0 c1 c2 c4 c5 c6 c7 cm hv hx hf2
              simp only [List.take_succ_cons, List.take_zero, List.drop_succ_cons, List.drop_zero]
              repeat (refine wpStill_step (fun K hK => ?_); go_simp; first | (refine hK _ ?_; clear hK K) | (refine ⟨_, rotl_still _ _ _ (by decide) (by decide), hK _ ?_⟩; clear hK K))
              refine wpStill_nil ?_
              refine wpList_copy_splice rfl (.tmp 157) (.tmp 158) 54 54 rfl 29 Tryd.underlying54 (by kernel_rfl) _ _ _ _ _ _ rfl rfl w2.heap.size 1 S.vals 31 hv1
                [.int .u32 S.a, .int .u32 S.b, .int .u32 S.c, .int .u32 S.d, .int .u32 S.e, .int .u32 S.f, .int .u32 S.g] rfl
                (fun _ => ⟨rfl, _, rfl, fun j v hj => ?_⟩) (Nat.le_refl 8) ?_ w2.heap.size W (Below.refl _ _) (Nat.le_refl _) ?_
              · have hj8 : j < 7 := (List.getElem?_eq_some_iff.1 hj).1
                rw [Addr.add_mid, Nat.zero_add, hv1.cell]
                rcases j with _ | _ | _ | _ | _ | _ | _ | j <;> first | exact hj | omega
              · intro v hv
                simp only [List.mem_cons, List.not_mem_nil, or_false] at hv
                rcases hv with rfl | rfl | rfl | rfl | rfl | rfl | rfl <;> rfl
              intro W3 hg3 hb3
              have hv3 : Has W3 w2.heap.size 31 [.int .u32 S.a, .int .u32 S.a, .int .u32 S.b, .int .u32 S.c, .int .u32 S.d, .int .u32 S.e, .int .u32 S.f, .int .u32 S.g] := hg3.out
              have hx3 : Has W3 w.heap.size 44 (pad L) := (hb3.block _ hgw).trans hx1
              have hf4 : Fr w.heap.size [] w W3 := hf3.below hb3 (by omega)
              clear hg3 hb3 hv1 hx1 hf3
              have d0 : W3.cell? ⟨w2.heap.size, 0, none⟩ = some (.int .u32 S.a) := hv3.cell 0
              have d4 : W3.cell? ⟨w2.heap.size, 4, none⟩ = some (.int .u32 S.d) := hv3.cell 4
              have z0 := hv3.frozen 0
              have z4 := hv3.frozen 4
              go_wp2
              go_roundw
              case rel =>
                refine ⟨m + 1, by omega, by go_num, ?_, ?_, ?_⟩
                · have h3 := (hv3.set 4 (.int .u32 ((S.d + one S (ks.getD m 0) (L.getD m 0)) % 4294967296))).set 0 (.int .u32 ((one S (ks.getD m 0) (L.getD m 0) + two S) % 4294967296))
                  rw [show rounds st ks L (m + 1) = Sha.step S (ks.getD m 0) (L.getD m 0) by rw [HS.out]; rfl]
                  refine Has.val2 (show Has _ _ _ (Sha.step S (ks.getD m 0) (L.getD m 0)).vals from h3) ?_ ?_
                  · simp only [one, S1, ch, List.getD_eq_getElem?_getD]; omega
                  · simp only [one, two, S1, S0, ch, maj, List.getD_eq_getElem?_getD]; omega
                · exact (hx3.far (by simp; omega) _).far (by simp; omega) _
                · exact (hf4.setCell (Or.inr (by simp; omega)) _).setCell (Or.inr (by simp; omega)) _
              case measure => simp [intOf]; omega
            · have hm64 : m = 64 := by omega
              rw [hm64] at hv
              have hmge : 64 ≤ m := by omega
              clear hm64 hlt hx hw1 hr1 hKr hKr' hst
              obtain ⟨w3, rfl⟩ : ∃ w3 : World, w3 = wr := ⟨_, rfl⟩
              obtain ⟨V, HV⟩ : ∃ V, Hid (V = rounds st ks L 64) := ⟨_, rfl⟩
              rw [← HV.out] at hv
              have hst : Has w3 g 34 (st.vals ++ rest) := hs.fr hf2 hgs (by simp)
              go_wp2
              go_loopw [170] (fun v wr => ∃ j : Nat, j ≤ 8 ∧ v = .int .i64 (j : Int) ∧ Has wr w2.heap.size 31 V.vals ∧ Has wr g 34 (((st.add V).vals.take j ++ st.vals.drop j) ++ rest) ∧ Fr w.heap.size [g] w wr) (fun v _ => 8 - (intOf v).toNat)
              case atStart => exact ⟨0, by omega, rfl, hv, hst, hf2.mono (Nat.le_refl _) (by simp)⟩
              case round =>
                obtain ⟨j, hj, rfl, hv1, hs1, hf3⟩ := hrel
                by_cases hlt : j < 8
                · have hne : g ≠ w2.heap.size := by omega
                  have cv : wr.cell? ⟨w2.heap.size, j, none⟩ = some (.int .u32 (V.ints.getD j 0)) := by rw [hv1.cell]; exact vals_get _ _ hlt
                  have cs : wr.cell? ⟨g, j, none⟩ = some (.int .u32 (st.ints.getD j 0)) := by
                    rw [hs1.cell, List.getElem?_append_left (by simp [vals_len]; omega)]
                    have := mix_get (st.add V).vals st.vals [] j (by rw [vals_len]; omega) (by rw [vals_len]; omega)
                    rw [List.append_nil] at this; rw [this]; exact vals_get _ _ hlt
                  have zs := hs1.frozen j
                  have b8 : (j : Int) < 8 := by omega
                  go_wp2
                  refine region_still_tail 11 (by kernel_rfl) (by kernel_rfl) ?_
                  intro W hW
                  have hv2 : Has W w2.heap.size 31 V.vals := by rw [hW]; exact hv1
                  have hs2 : Has W g 34 (((st.add V).vals.take j ++ st.vals.drop j) ++ rest) := by rw [hW]; exact hs1
                  have hf4 : Fr w.heap.size [g] w W := by rw [hW]; exact hf3.drew
                  have cv2 : W.cell? ⟨w2.heap.size, j, none⟩ = some (.int .u32 (V.ints.getD j 0)) := by rw [hW]; exact cv
                  have cs2 : W.cell? ⟨g, j, none⟩ = some (.int .u32 (st.ints.getD j 0)) := by rw [hW]; exact cs
                  have zs2 : W.frozen? ⟨g, j, none⟩ = false := by rw [hW]; exact zs
                  clear hW cv cs zs hv1 hs1 hf3
                  simp only [List.take_succ_cons, List.take_zero, List.drop_succ_cons, List.drop_zero]
                  repeat (refine wpStill_step (fun K hK => ?_); go_simp; refine hK _ ?_; clear hK K)
                  refine wpStill_nil ?_
                  go_wp2
                  go_roundw
                  case rel =>
                    refine ⟨j + 1, by omega, by go_num, hv2.far hne.symm _, ?_, hf4.setCell (Or.inl (by simp)) _⟩
                    have h3 := hs2.set j (.int .u32 ((st.add V).ints.getD j 0))
                    rw [mix_set _ _ _ _ _ (vals_get _ _ hlt) (by rw [vals_len]; omega)] at h3
                    exact h3.val (by rw [add_get _ _ _ hlt]; simp only [List.getD_eq_getElem?_getD])
                  case measure => simp [intOf]; omega
                · have hj8 : j = 8 := by omega
                  rw [hj8] at hs1
                  have hjge : 8 ≤ j := by omega
                  clear hj8 hlt
                  go_wp2
                  go_end0
                  refine ⟨rfl, ?_, hf3⟩
                  have e : feed st (bl b) = st.add V := by rw [HV.out, HL.out]; rfl
                  rw [e]
                  exact hs1
end Go.Proofs.YtpboclafoccfnaaDoor
