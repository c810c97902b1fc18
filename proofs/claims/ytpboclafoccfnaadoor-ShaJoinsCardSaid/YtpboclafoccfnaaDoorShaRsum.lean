/- The reference's Sum. -/
import Derived.Test.YtpboclafoccfnaaDoorShaRef
import Derived.Test.YtpboclafoccfnaaDoorShaPad
import Derived.Deep.QuietTactic
import Derived.BigQuiet
import Derived.Lib.Hide
namespace Go.Proofs.YtpboclafoccfnaaDoor
open Go.RowKit
open Sha
theorem info30 : (Tryd.prog.info? 30).map (·.size) = some 8 := by kernel_rfl
theorem St.has_cells {w : World} {g : Nat} {t : TypeId} {s : St} {r : List Value} (h : Has w g t (s.vals ++ r)) :
    w.cell? ⟨g, 0, none⟩ = some (.int .u32 s.a) ∧ w.cell? ⟨g, 1, none⟩ = some (.int .u32 s.b) ∧ w.cell? ⟨g, 2, none⟩ = some (.int .u32 s.c) ∧ w.cell? ⟨g, 3, none⟩ = some (.int .u32 s.d) ∧
    w.cell? ⟨g, 4, none⟩ = some (.int .u32 s.e) ∧ w.cell? ⟨g, 5, none⟩ = some (.int .u32 s.f) ∧ w.cell? ⟨g, 6, none⟩ = some (.int .u32 s.g) ∧ w.cell? ⟨g, 7, none⟩ = some (.int .u32 s.h) :=
  ⟨h.cell 0, h.cell 1, h.cell 2, h.cell 3, h.cell 4, h.cell 5, h.cell 6, h.cell 7⟩
theorem Has.eight {w : World} {g : Nat} {t : TypeId} {k : IntKind} {x0 x1 x2 x3 x4 x5 x6 x7 y0 y4 : Int} (h : Has w g t [.int k x0, .int k x1, .int k x2, .int k x3, .int k x4, .int k x5, .int k x6, .int k x7]) (e0 : y0 = x0) (e4 : y4 = x4) :
    Has w g t [.int k y0, .int k x1, .int k x2, .int k x3, .int k y4, .int k x5, .int k x6, .int k x7] := by subst e0; subst e4; exact h
set_option maxHeartbeats 1000000 in
set_option maxRecDepth 100000 in
theorem rsum_any (w : World) (s : ByteArray) (hs : s.size ≤ 1000000) :
    Calls Tryd.prog 9 #[.string s] w fun e w' => e = .returned (.agg ((digest (bl s)).map (Value.int .u8)).toArray) ∧ Fr w.heap.size [] w w' := by
  obtain ⟨KA, hKA⟩ : ∃ KA : List Value, Hid (KA = ks.map (Value.int .u32)) := ⟨_, rfl⟩
  have hlenK : (Tryd.prog.info? 44).map (·.size) = some KA.length := by rw [hKA.out]; kernel_rfl
  have htab : ∀ W, Calls Tryd.prog 17 #[] W fun e w' => e = .returned (.agg KA.toArray) ∧ Fr W.heap.size [] W w' := fun W => by rw [hKA.out]; exact table_any W
  have honeK : ∀ v ∈ KA, v.oneCell' = true := by rw [hKA.out]; exact ints_oneCell _ _
  have hl64 : KA.length = 64 := by rw [hKA.out]; rfl
  have HT := Lib.hid htab
  clear htab
  go_enter Tryd.func9, Tryd.ntmps9
  go_upto_region 2 with (fail)
  obtain ⟨W0, hW0⟩ : ∃ W0, (w.alloc (.cells (List.replicate 32 (Value.int .u8 0)).toArray 23)).alloc (.cells St.start.vals.toArray 30) = W0 := ⟨_, rfl⟩
  have hz0 : W0.heap.size = w.heap.size + 2 := by rw [← hW0]; simp
  have hO : Has W0 w.heap.size 23 (List.replicate 32 (Value.int .u8 0)) := by rw [← hW0]; exact (Has.new _ _ _).alloc _
  have hS : Has W0 (w.heap.size + 1) 30 St.start.vals := by rw [← hW0]; exact Has.new' _ _ _ (by simp)
  have hF : Fr w.heap.size [] w W0 := by rw [← hW0]; exact ((Fr.refl _ _ _).alloc (Nat.le_refl _) _).alloc (by simp) _
  refine wp_world hW0 ?_
  have HZ := Lib.hid hz0
  clear hW0 hz0
  apply wp_region_lit
  go_wp2_with (first
    | (go_at_call 17; refine (HT.out _).mono ?_; rintro e w1 ⟨rfl, hf1⟩; have hO1 := hO.fr hf1 hO.lt (by simp); have hS1 := hS.fr hf1 hS.lt (by simp); have hF1 := hF.trans (hf1.mono hF.size (by simp)); clear hO hS hF hf1)
    | ((with_reducible refine wpList_store_all rfl 44 (.tmp 4) (.tmp 18) rfl w1.heap.size 44 _ KA rfl rfl (Has.new w1 44 _) ?_ hlenK honeK ?_); exact hl64; rintro w2 hK2 o2; have hO2 := hO1.news o2; have hS2 := hS1.news o2; have hF2 := hF1.new hF1.size o2; have hgk := hS1.lt; clear hO1 hS1 hF1 o2)
    | (go_at_call 18; refine (padded_any _ s hs).mono ?_; rintro e w3 ⟨⟨PB, rfl, hPB⟩, hf3⟩; have hPB' := Lib.hid hPB; clear hPB; have hO3 := hO2.fr hf3 hO2.lt (by simp); have hS3 := hS2.fr hf3 hS2.lt (by simp); have hK3 := hK2.fr hf3 hK2.lt (by simp); have hF3 := hF2.trans (hf3.mono hF2.size (by simp)); clear hO2 hS2 hK2 hF2 hf3))
  have hPl : PB.size = (padded (bl s)).length := by rw [← bl_len, hPB'.out]
  have hPm : PB.size % 64 = 0 := by rw [hPl]; exact padded_mod _
  have hPb : PB.size ≤ 2000000 := by rw [hPl]; have := padded_le (bl s); rw [bl_len] at this; omega
  have HPl := Lib.hid hPl
  have HPm := Lib.hid hPm
  clear hPl hPm
  go_loopw [6] (fun v wr => ∃ a n : Nat, a ≤ PB.size ∧ v = .int .i64 (a : Int) ∧ Hid (a = 64 * n) ∧ Has wr w.heap.size 23 (List.replicate 32 (Value.int .u8 0)) ∧ Has wr (w.heap.size + 1) 30 (fs (bl PB) n).vals ∧ Has wr w1.heap.size 44 KA ∧ Fr w.heap.size [] w wr) (fun v _ => PB.size - (intOf v).toNat)
  case atStart => exact ⟨0, 0, by omega, rfl, rfl, hO3, hS3, hK3, hF3⟩
  case round =>
    clear hO3 hS3 hK3 hF3
    obtain ⟨a, n, ha, rfl, han, hO, hS, hK, hF⟩ := hrel
    by_cases hlt : a < PB.size
    · have hle : a + 64 ≤ PB.size := by have := HPm.out; have := han.out; omega
      obtain ⟨S, HS⟩ : ∃ S, Hid (S = fs (bl PB) n) := ⟨_, rfl⟩
      rw [← HS.out] at hS
      obtain ⟨BB, HB⟩ : ∃ BB, Hid (BB = PB.extract a (a + 64)) := ⟨_, rfl⟩
      have hbs : BB.size = 64 := by rw [HB.out, ByteArray.size_extract]; omega
      obtain ⟨WL, HWL⟩ : ∃ WL, Hid (WL = sched (bl BB)) := ⟨_, rfl⟩
      have hWl : WL.length = 64 := by rw [HWL.out]; unfold sched; rw [more_len, first_len]
      obtain ⟨WA, HWA⟩ : ∃ WA, Hid (WA = WL.map (Value.int .u32)) := ⟨_, rfl⟩
      have hwd : ∀ W, Calls Tryd.prog 19 #[.string BB] W fun e w' => e = .returned (.agg WA.toArray) ∧ Fr W.heap.size [] W w' := fun W => by
        rw [HWA.out, HWL.out]; exact words_any W BB hbs
      have hsl : ∀ W, (Instr.slice 9 (.string PB) (some (.int .i64 (a : Int))) (some (.int .i64 ((a : Int) + 64))) none).run Tryd.prog W = .ok (.string BB) W := fun W => by
        rw [HB.out, run_slice_string (P := Tryd.prog) W 9 PB .i64 .i64 (a : Int) ((a : Int) + 64) Tryd.underlying9 (by omega) (by omega) (by omega)]
        rw [show ((a : Int) + 64).toNat = a + 64 by omega, Int.toNat_natCast]
      have hlW : WA.length = 64 := by rw [HWA.out, List.length_map, hWl]
      have hlenW : (Tryd.prog.info? 44).map (·.size) = some WA.length := by rw [hlW]; exact info44
      have honeW : ∀ v ∈ WA, v.oneCell' = true := by rw [HWA.out]; exact ints_oneCell _ _
      have HWl := Lib.hid hWl
      have HWD := Lib.hid hwd
      have HlW := Lib.hid hlW
      have Hbs := Lib.hid hbs
      clear hWl hwd hlW hbs
      have hgw := hK.lt
      have hrS : ∀ W : World, Has W (w.heap.size + 1) 30 S.vals → W.rangeAt (w.heap.size + 1) 0 [.int .u32 S.a, .int .u32 S.b, .int .u32 S.c, .int .u32 S.d, .int .u32 S.e, .int .u32 S.f, .int .u32 S.g, .int .u32 S.h] := fun W h => h.range 0 8
      have HrS := Lib.hid hrS
      clear hrS
      go_wp2_with (first
        | (go_at_call 19; refine (HWD.out _).mono ?_; rintro e w4 ⟨rfl, hf4⟩; have hO4 := hO.fr hf4 hO.lt (by simp); have hS4 := hS.fr hf4 hS.lt (by simp); have hK4 := hK.fr hf4 hK.lt (by simp); have hF4 := hF.trans (hf4.mono hF.size (by simp)); have hs4 := hf4.size; clear hf4)
        | ((with_reducible refine wpList_store_all rfl 44 (.tmp 7) (.tmp 32) rfl w4.heap.size 44 _ WA rfl rfl (Has.new w4 44 _) ?_ hlenW honeW ?_); exact HlW.out; rintro w5 hW5 o5; have hO5 := hO4.news o5; have hS5 := hS4.news o5; have hK5 := hK4.news o5; have hF5 := hF4.new hF4.size o5; have hr5 := HrS.out _ hS5; clear hO4 hS4 hK4 hF4 o5)
        | ((with_reducible refine wpList_load_mid rfl 30 (.tmp 3) rfl (w.heap.size + 1) 0 rfl _ _ hr5 Tryd.underlying30 rfl ?_ ?_); exact info30))
      clear hr5 HWD HT HrS
      obtain ⟨w6, hw6⟩ : ∃ w6, w5.alloc (.cells S.vals.toArray 30) = w6 := ⟨_, rfl⟩
      have hz6 : w6.heap.size = w5.heap.size + 1 := by rw [← hw6]; simp
      have hV6 : Has w6 w5.heap.size 30 (rounds S ks WL 0).vals := by rw [← hw6]; exact Has.new _ _ _
      have hO6 : Has w6 w.heap.size 23 (List.replicate 32 (Value.int .u8 0)) := by rw [← hw6]; exact hO5.alloc _
      have hS6 : Has w6 (w.heap.size + 1) 30 S.vals := by rw [← hw6]; exact hS5.alloc _
      have hK6 : Has w6 w1.heap.size 44 KA := by rw [← hw6]; exact hK5.alloc _
      have hW6 : Has w6 w4.heap.size 44 WA := by rw [← hw6]; exact hW5.alloc _
      have hF6 : Fr w.heap.size [] w w6 := by rw [← hw6]; exact hF5.alloc hF5.size _
      have hgv : w4.heap.size < w5.heap.size := hW5.lt
      refine wp_world hw6 ?_
      have HZ6 := Lib.hid hz6
      clear hw6 hO5 hS5 hK5 hW5 hF5 hz6
      go_loopw [9] (fun v wr => ∃ m : Nat, m ≤ 64 ∧ v = .int .i64 (m : Int) ∧ Has wr w5.heap.size 30 (rounds S ks WL m).vals ∧ Fr w5.heap.size [] w6 wr) (fun v _ => 64 - (intOf v).toNat)
      case atStart => exact ⟨0, by omega, rfl, hV6, Fr.refl _ _ _⟩
      case round =>
        obtain ⟨m, hm, rfl, hv, hf⟩ := hrel
        by_cases hlt2 : m < 64
        · obtain ⟨R, HR⟩ : ∃ R, Hid (R = rounds S ks WL m) := ⟨_, rfl⟩
          rw [← HR.out] at hv
          have ck : wr.cell? ⟨w1.heap.size, m, none⟩ = some (.int .u32 (ks.getD m 0)) := by
            rw [(hK6.fr hf (by omega) (by simp)).cell, hKA.out]
            have hml : m < ks.length := hlt2
            simp only [List.getElem?_map, List.getElem?_eq_getElem hml, List.getD_eq_getElem?_getD]; rfl
          have cw : wr.cell? ⟨w4.heap.size, m, none⟩ = some (.int .u32 (WL.getD m 0)) := by
            rw [(hW6.fr hf (by omega) (by simp)).cell, HWA.out]
            have hml : m < WL.length := by rw [HWl.out]; exact hlt2
            simp only [List.getElem?_map, List.getElem?_eq_getElem hml, List.getD_eq_getElem?_getD]; rfl
          obtain ⟨c0, c1, c2, c3, c4, c5, c6, c7⟩ := St.has_cells (r := []) (by rw [List.append_nil]; exact hv)
          have bm : (m : Int) < 64 := by omega
          go_wp2
          go_quiet ((go_at_call 20; exact quiet_same0 (fun W => rot_lit _ _ W (by decide) (by decide))))
          go_wp2
          go_quiet ((go_at_call 20; exact quiet_same (fun W => rot_lit _ _ W (by decide) (by decide))))
          have hvN : ∀ n, Has (wr.drewN n) w5.heap.size 30 R.vals := fun _ => hv
          go_wp2_with ((with_reducible refine wpList_store_all rfl 30 (.tmp 8) (.tmp 115) rfl w5.heap.size 30 _ _ rfl rfl (hvN _) ?_ ?_ ?_ ?_); exact rfl; exact info30; (intro v hv; simp only [List.mem_cons, List.not_mem_nil, or_false] at hv; rcases hv with rfl | rfl | rfl | rfl | rfl | rfl | rfl | rfl <;> rfl); rintro w7 h7 o7)
          go_roundw
          case rel =>
            refine ⟨m + 1, by omega, by go_num, ?_, ((hf.drewN _).one o7 (Or.inr (Nat.le_refl _)))⟩
            rw [show rounds S ks WL (m + 1) = Sha.step R (ks.getD m 0) (WL.getD m 0) by rw [HR.out]; rfl]
            refine Has.eight h7 ?_ ?_
            · simp only [Sha.step, one, two, S1, S0, ch, maj, List.getD_eq_getElem?_getD]; omega
            · simp only [Sha.step, one, S1, ch, List.getD_eq_getElem?_getD]; omega
          case measure => simp [intOf]; omega
        · have hm64 : m = 64 := by omega
          rw [hm64] at hv
          have hmge : 64 ≤ m := by omega
          clear hm64 hlt2
          obtain ⟨w8, rfl⟩ : ∃ w8 : World, w8 = wr := ⟨_, rfl⟩
          obtain ⟨V, HV⟩ : ∃ V, Hid (V = rounds S ks WL 64) := ⟨_, rfl⟩
          rw [← HV.out] at hv
          have hO8 := hO6.fr hf (by omega) (by simp)
          have hS8 := hS6.fr hf (by omega) (by simp)
          have hK8 := hK6.fr hf (by omega) (by simp)
          have hF8 := hF6.trans (hf.mono (by have := hS6.lt; have := HZ6.out; omega) (by simp))
          clear hO6 hS6 hK6 hW6 hF6 hf hV6
          go_wp2
          go_loopw [14] (fun v wr => ∃ j : Nat, j ≤ 8 ∧ v = .int .i64 (j : Int) ∧ Has wr w5.heap.size 30 V.vals ∧ Has wr (w.heap.size + 1) 30 ((S.add V).vals.take j ++ S.vals.drop j ++ []) ∧ Has wr w.heap.size 23 (List.replicate 32 (Value.int .u8 0)) ∧ Has wr w1.heap.size 44 KA ∧ Fr w.heap.size [] w wr) (fun v _ => 8 - (intOf v).toNat)
          case atStart => exact ⟨0, by omega, rfl, hv, by simpa using hS8, hO8, hK8, hF8⟩
          case round =>
            clear hv hS8 hO8 hK8 hF8
            obtain ⟨j, hj, rfl, hv1, hs1, hO1, hK1, hF1⟩ := hrel
            by_cases hlt3 : j < 8
            · have cv : wr.cell? ⟨w5.heap.size, j, none⟩ = some (.int .u32 (V.ints.getD j 0)) := by rw [hv1.cell]; exact vals_get _ _ hlt3
              have cs : wr.cell? ⟨w.heap.size + 1, j, none⟩ = some (.int .u32 (S.ints.getD j 0)) := by
                rw [hs1.cell, mix_get _ _ _ _ (by rw [vals_len]; omega) (by rw [vals_len]; omega)]; exact vals_get _ _ hlt3
              have zs := hs1.frozen j
              have b8 : (j : Int) < 8 := by omega
              go_wp2
              go_region
              go_wp2
              go_roundw
              case rel =>
                refine ⟨j + 1, by omega, by go_num, (hv1.far (by simp; omega) _).drew, ?_, (hO1.far (by simp) _).drew, (hK1.far (by simp; omega) _).drew, (hF1.setCell (Or.inr (by simp)) _).drew⟩
                have h3 := hs1.set j (.int .u32 ((S.add V).ints.getD j 0))
                rw [mix_set _ _ _ _ _ (vals_get _ _ hlt3) (by rw [vals_len]; omega)] at h3
                exact (h3.val (by rw [add_get _ _ _ hlt3]; simp only [List.getD_eq_getElem?_getD])).drew
              case measure => simp [intOf]; omega
            · have hj8 : j = 8 := by omega
              rw [hj8, List.append_nil] at hs1
              have hjge : 8 ≤ j := by omega
              clear hj8 hlt3
              go_wp2
              go_roundw
              case rel =>
                have hs2 : Has wr (w.heap.size + 1) 30 (S.add V).vals := hs1
                refine ⟨a + 64, n + 1, hle, by go_num, by have := han.out; show a + 64 = 64 * (n + 1); omega, hO1, ?_, hK1, hF1⟩
                have e : fs (bl PB) (n + 1) = S.add V := by
                  have h1 : bl BB = ((bl PB).drop (64 * n)).take 64 := by rw [HB.out, bl_extract, han.out, Nat.add_sub_cancel_left]
                  rw [HV.out, HWL.out, h1, HS.out]; rfl
                rw [e]
                exact hs2
              case measure => simp [intOf]; omega
    · have haP : a = PB.size := by omega
      have hnN : n = (padded (bl s)).length / 64 := by have := HPl.out; have := han.out; omega
      obtain ⟨S, HS⟩ : ∃ S, Hid (S = fs (bl PB) n) := ⟨_, rfl⟩
      rw [← HS.out] at hS
      obtain ⟨D, HD⟩ : ∃ D, Hid (D = bytesOf S) := ⟨_, rfl⟩
      have hD : D = digest (bl s) := by rw [HD.out, HS.out, hnN, hPB'.out]; rfl
      have hDl : D.length = 32 := by rw [HD.out, bytesOf_len]
      have HDd := Lib.hid hD
      have HDl := Lib.hid hDl
      have hage : PB.size ≤ a := by omega
      clear haP hnN hD hDl hlt HT hl64 honeK hlenK
      obtain ⟨wo, rfl⟩ : ∃ wo : World, wo = wr := ⟨_, rfl⟩
      go_wp2
      go_loopw [16] (fun v wr => ∃ k : Nat, k ≤ 32 ∧ v = .int .i64 (k : Int) ∧ Has wr wo.heap.size 23 ((fill D k).map (Value.int .u8)) ∧ Has wr (w.heap.size + 1) 30 S.vals ∧ Has wr w.heap.size 23 (List.replicate 32 (Value.int .u8 0)) ∧ Fr w.heap.size [] w wr) (fun v _ => 32 - (intOf v).toNat)
      case atStart =>
        refine ⟨0, by omega, rfl, ?_, hS.alloc _, hO.alloc _, hF.alloc hF.size _⟩
        have e : fill D 0 = List.replicate 32 0 := by unfold fill; rw [HDl.out]; rfl
        rw [e]
        exact Has.new _ _ _
      case round =>
        have hBo := hS.lt
        clear hS hO hF hK
        obtain ⟨k, hk, rfl, hD1, hS1, hO1, hF1⟩ := hrel
        by_cases hlt : k < 32
        · have cs : wr.cell? ⟨w.heap.size + 1, k / 4, none⟩ = some (.int .u32 (S.ints.getD (k / 4) 0)) := by rw [hS1.cell]; exact vals_get _ _ (by omega)
          have cd := hD1.cellD k (by rw [List.length_map, fill_len _ _ (by rw [HDl.out]; exact hk), HDl.out]; exact hlt) undef
          have zd := hD1.frozen k
          have i0 : (0 : Int) ≤ (k : Int) / 4 := by omega
          have i1 : (k : Int) / 4 < 8 := by omega
          have i2 : ((k : Int) / 4).toNat = k / 4 := by omega
          have i3 : (k : Int) < 32 := by omega
          have j0 : (0 : Int) ≤ 24 - 8 * ((k : Int) % 4) := by omega
          have j1 : 24 - 8 * ((k : Int) % 4) ≤ 32 := by omega
          have j2 : (24 - 8 * ((k : Int) % 4)).toNat = 24 - 8 * (k % 4) := by omega
          go_wp2
          go_roundw
          case rel =>
            refine ⟨k + 1, by omega, by go_num, ?_, hS1.far (by simp; omega) _, hO1.far (by simp; omega) _, hF1.setCell (Or.inr (by simp; omega)) _⟩
            have h3 := hD1.set k (.int .u8 (D.getD k 0))
            rw [← List.map_set, fill_set _ _ (by rw [HDl.out]; exact hlt)] at h3
            exact h3.val (by rw [HD.out, bytesOf_get _ _ hlt, List.getD_eq_getElem?_getD])
          case measure => simp [intOf]; omega
        · have hk32 : k = D.length := by rw [HDl.out]; omega
          rw [hk32, fill_all] at hD1
          have hkge : 32 ≤ k := by omega
          obtain ⟨DA, HDA⟩ : ∃ DA, Hid (DA = D.map (Value.int .u8)) := ⟨_, rfl⟩
          rw [← HDA.out] at hD1
          have hlA : DA.length = 32 := by rw [HDA.out, List.length_map, HDl.out]
          have hi23 : (Tryd.prog.info? 23).map (·.size) = some DA.length := by rw [hlA]; exact info23
          have hone : ∀ v ∈ DA, v.oneCell' = true := by rw [HDA.out]; exact ints_oneCell _ _
          have hrg : wr.rangeAt wo.heap.size 0 DA := by
            have := hD1.range 0 32
            rwa [List.drop_zero, List.take_of_length_le (by omega)] at this
          have HlA := Lib.hid hlA
          clear hlA hk32 hlt hk
          go_wp2_with (first
            | (with_reducible refine wpList_load_mid rfl 23 (.tmp 15) rfl wo.heap.size 0 rfl DA _ hrg Tryd.underlying23 rfl hi23 ?_)
            | ((with_reducible refine wpList_store_all rfl 23 (.tmp 2) (.tmp 146) rfl w.heap.size 23 _ DA rfl rfl hO1 ?_ hi23 hone ?_); (rw [HlA.out]; rfl); intro w9 h9 o9))
          refine bodyPost_ret (v := .agg DA.toArray) (results_cell_row rfl _ _ w.heap.size 23 _ _ _ rfl h9 Tryd.underlying23 rfl hi23) rfl ⟨by rw [HDA.out, HDd.out], hF1.one o9 (Or.inr (Nat.le_refl _))⟩
end Go.Proofs.YtpboclafoccfnaaDoor
