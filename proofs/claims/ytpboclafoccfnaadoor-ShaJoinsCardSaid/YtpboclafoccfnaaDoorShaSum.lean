/- Sum: of what was written; the hash stays. -/
import Derived.Test.YtpboclafoccfnaaDoorShaWrite
import Derived.Lib.Hide
namespace Go.Proofs.YtpboclafoccfnaaDoor
open Go.RowKit
open Sha
theorem info34 : (Tryd.prog.info? 34).map (·.size) = some 11 := by kernel_rfl
set_option maxHeartbeats 1000000 in
set_option maxRecDepth 100000 in
theorem hsum_any (w : World) (p : Option Addr) (a : List Int) (h : (p = none ∧ a = []) ∨ ∃ g, p = some ⟨g, 0, none⟩ ∧ HashIs w g a) (hK : Kst w) (hsz : a.length ≤ 1000000) :
    Calls Tryd.prog 13 #[.pointer p] w fun e w' => e = .returned (.agg ((digest a).map (Value.int .u8)).toArray) ∧ Fr w.heap.size [] w w' := by
  obtain ⟨i0, hi, hz0, hz1, hz2⟩ := info_parts info5
  have hk0 := hK.2
  rcases h with ⟨rfl, rfl⟩ | ⟨g, rfl, h⟩
  focus
    obtain ⟨a, ha0⟩ : ∃ a : List Int, Hid (a = []) := ⟨_, rfl⟩
    have hsz : a.length ≤ 1000000 := by rw [ha0.out]; exact hsz
    rw [← ha0.out]
    go_enter Tryd.func13, Tryd.ntmps13
    go_upto_region 4 with (fail)
    obtain ⟨W0, hW0⟩ : ∃ W0, (w.alloc (.cells (List.replicate 32 (Value.int .u8 0)).toArray 23)).alloc (.cells hzero.toArray 34) = W0 := ⟨_, rfl⟩
    have hz0' : W0.heap.size = w.heap.size + 2 := by rw [← hW0]; simp
    have hO : Has W0 w.heap.size 23 (List.replicate 32 (Value.int .u8 0)) := by rw [← hW0]; exact (Has.new _ _ _).alloc _
    have hC : HashIs W0 (w.heap.size + 1) a := by rw [← hW0]; exact .inr ⟨ha0.out, Has.new' _ _ _ (by simp)⟩
    have hF : Fr w.heap.size [] w W0 := by rw [← hW0]; exact ((Fr.refl _ _ _).alloc (Nat.le_refl _) _).alloc (by simp) _
    have hK0 : Kst W0 := hK.fr hF hk0 (by simp)
    refine wp_world hW0 ?_
    clear hW0 hK
  rotate_left
  focus
    obtain ⟨st, b, r, hh, hback⟩ := h.cells
    have hrg : w.rangeAt g 0 [.int .u32 st.a, .int .u32 st.b, .int .u32 st.c, .int .u32 st.d, .int .u32 st.e, .int .u32 st.f, .int .u32 st.g, .int .u32 st.h, .bool b, .string r, .int .u64 (a.length : Int)] := hh.range 0 11
    go_enter Tryd.func13, Tryd.ntmps13
    go_upto_region 4 with ((with_reducible refine wpList_load_mid rfl 34 (.tmp 13) rfl g 0 rfl _ _ (World.rangeAt_alloc (World.rangeAt_alloc hrg _) _) Tryd.underlying34 rfl ?_ ?_); exact info34)
    obtain ⟨W0, hW0⟩ : ∃ W0, (w.alloc (.cells (List.replicate 32 (Value.int .u8 0)).toArray 23)).alloc (.cells (st.vals ++ [Value.bool b, Value.string r, Value.int .u64 (a.length : Int)]).toArray 34) = W0 := ⟨_, rfl⟩
    have hz0' : W0.heap.size = w.heap.size + 2 := by rw [← hW0]; simp
    have hO : Has W0 w.heap.size 23 (List.replicate 32 (Value.int .u8 0)) := by rw [← hW0]; exact (Has.new _ _ _).alloc _
    have hC : HashIs W0 (w.heap.size + 1) a := by rw [← hW0]; exact hback _ _ (Has.new' _ _ _ (by simp))
    have hF : Fr w.heap.size [] w W0 := by rw [← hW0]; exact ((Fr.refl _ _ _).alloc (Nat.le_refl _) _).alloc (by simp) _
    have hK0 : Kst W0 := hK.fr hF hk0 (by simp)
    refine wp_world hW0 ?_
    clear hW0 hK hrg hh hback h
  all_goals
    have HZ := Lib.hid hz0'
    clear hz0'
    obtain ⟨st0, b0, r0, hh, _⟩ := hC.cells
    have c10 : W0.cell? ⟨w.heap.size + 1, 10, none⟩ = some (.int .u64 (a.length : Int)) := hh.cell 10
    obtain ⟨z, hz⟩ : ∃ z, Hid (z = zs a.length) := ⟨_, rfl⟩
    have hz64 : z < 64 := by rw [hz.out]; unfold zs; omega
    obtain ⟨Z, hZ⟩ : ∃ Z : Array Value, Hid (Z = (List.replicate 128 (Value.int .u8 0)).toArray) := ⟨_, rfl⟩
    obtain ⟨μ, hμ⟩ : ∃ μ : Int, (a.length : Int) % 64 = μ := ⟨_, rfl⟩
    have μ0 : 0 ≤ μ := by omega
    have μ1 : μ < 64 := by omega
    have hmk : ∀ W, (Instr.makeSlice 50 (.int .i64 (1 + (119 - μ) % 64)) (.int .i64 128)).run Tryd.prog W = .ok (.slice (some ⟨W.heap.size, 0, none⟩) (1 + z) 128) (W.alloc (.cells Z 5)) := fun W => by
      have h1 := run_make (P := Tryd.prog) W 50 5 i0 _ Tryd.underlying50 hi hz0 .i64 .i64 (1 + (119 - μ) % 64) 128 (by omega) (by omega) (by rw [hz2]; decide) (by decide)
      rw [h1, show (1 + (119 - μ) % 64).toNat = 1 + z by rw [hz.out]; unfold zs; omega, hz1, hZ.out]
      congr 3
      apply Array.ext'
      rw [List.toList_toArray]
      exact toList_madeCells_one _ _
    have hZ0 : Z[0]? = some (.int .u8 0) := by rw [hZ.out]; rfl
    have n0 : (0 : Int) ≤ (a.length : Int) := by omega
    go_wp2
    have hZs : Hid (Z.size = 128) := by rw [hZ.out]; exact (rfl : (List.replicate 128 (Value.int .u8 0)).toArray.size = 128)
    clear hμ
    go_loopw [5, 28] (fun v i wr => ∃ k : Nat, k ≤ 8 ∧ i = .int .i64 (k : Int) ∧ wr.ownsRow (w.heap.size + 2) 5 1 v (1 + z + k) ((128 :: List.replicate z 0 ++ (tail8 a.length).take k).map (Value.int .u8)) ∧ Fr (w.heap.size + 2) [] W0 wr ∧ w.heap.size + 2 < wr.heap.size) (fun _ i _ => 8 - (intOf i).toNat)
    case atStart =>
      refine ⟨0, by omega, rfl, ⟨by simp; omega, .inr ⟨W0.heap.size, 128, _, rfl, by rw [HZ.out]; exact Nat.le_refl _, heap_alloc_new _ _, by omega, by unfold maxLen; omega, by simp [hZs.out], ?_⟩⟩, (Fr.refl _ _ _).alloc (by rw [HZ.out]; exact Nat.le_refl _) _, by rw [World.size_alloc, HZ.out]; omega⟩
      rw [hZ.out, Nat.add_zero, Nat.mul_one, List.take_zero, List.append_nil]
      simp only [List.setIfInBounds_toArray, List.map_cons, List.map_replicate]
      rw [List.replicate_succ (n := 127), List.set_cons_zero, Nat.add_comm 1 z, List.take_succ_cons, List.take_replicate, Nat.min_eq_left (by omega)]
    case round =>
      obtain ⟨k, hk, rfl, hown, hf, hsize⟩ := hrel
      by_cases hlt : k < 8
      · go_wp2_with (at_builtin; refine wpList_append_has rfl (.tmp 31) (.tmp 38) 50 rfl (w.heap.size + 2) 5 i0 (.int .u8 0) 1 1 Tryd.underlying50 hi hz0 hz1 hz2 rfl (by decide) u5 (1 + z + k) _ rfl (hown.alloc _) wr.heap.size 1 _ rfl (Has.new _ _ [_]) rfl (fun u hu => by simp at hu; subst hu; rfl) (by unfold maxLen; omega) (by omega) (by simp; omega) ?_; intro v' w1 hown1 hg1 _)
        go_roundw
        case rel =>
          have hs1 := hg1.size
          rw [World.size_alloc] at hs1
          refine ⟨k + 1, by omega, by go_num, ?_, (hf.alloc (by omega) _).grown hg1 (by simp; omega) (fun q hq => Or.inr (hown.lt q hq).1), by omega⟩
          have e : (tail8 a.length).take (k + 1) = (tail8 a.length).take k ++ [(a.length : Int) * 8 / 2 ^ (56 - 8 * k) % 256] := by
            have h := tail8_get a.length k hlt
            rw [List.take_add_one, h, show ((a.length : Int) * 8 % 18446744073709551616) = (a.length : Int) * 8 by omega]; rfl
          rw [e, ← List.append_assoc, List.map_append]
          exact hown1
        case measure => simp [intOf]; omega
      · have hk8 : k = 8 := by omega
        rw [hk8, List.take_of_length_le (by rw [tail8_len]; omega)] at hown
        have hcv := run_string_own (P := Tryd.prog) Tryd.underlying50 Tryd.underlying5 Tryd.underlying9 hown
        have hge : 8 ≤ k := by omega
        obtain ⟨PB, HP⟩ : ∃ PB, Hid (PB = strOfNums (128 :: List.replicate z 0 ++ tail8 a.length)) := ⟨strOfNums (128 :: List.replicate z 0 ++ tail8 a.length), rfl⟩
        rw [← HP.out] at hcv
        have hbP : bl PB = 128 :: List.replicate z 0 ++ tail8 a.length := by
          rw [HP.out]
          refine bl_strOfNums _ (fun x hx => ?_)
          simp only [List.cons_append, List.mem_cons, List.mem_append, List.mem_replicate] at hx
          rcases hx with rfl | ⟨_, rfl⟩ | hx
          · decide
          · decide
          · exact tail8_rng _ x hx
        have hpad : a ++ cat [PB] = padded a := by
          show a ++ (bl PB ++ []) = _
          rw [List.append_nil, hbP, padded, hz.out, List.append_assoc]
        have hO1 : Has wr w.heap.size 23 (List.replicate 32 (Value.int .u8 0)) := hO.fr hf (by omega) (by simp)
        have hC1 : HashIs wr (w.heap.size + 1) a := hC.fr hf (by omega) (by simp)
        have hF1 : Fr w.heap.size [] w wr := hF.trans (hf.mono (by omega) (by simp))
        have hK1 : Kst wr := hK0.fr hf (by omega) (by simp)
        have Hpad := Lib.hid hpad
        have hcat : (a ++ cat [PB]).length ≤ 1000100 := by rw [hpad]; have := padded_le a; omega
        have hcat2 : a.length + (cat [PB]).length ≤ 2000000 := by rw [List.length_append] at hcat; omega
        clear hk8 hlt hown hf hO hC hF hK0 hmk hZ0 hbP hpad hh c10
        go_wp2_with (go_at_call 12; refine (write_any (wr.alloc (.cells #[.string PB] 9)) (w.heap.size + 1) a _ 1 [PB] (hC1.alloc _) (.inr ⟨wr.heap.size, 0, rfl, by simp, by omega, fun k hk => ?_⟩) (hK1.alloc _) (by simp) hcat2).mono ?_; (obtain rfl : k = 0 := by simpa using hk); (exact (Has.new wr 9 [.string PB]).cell 0); rintro e w2 ⟨rfl, hC2, hf2⟩; have hO2 := (hO1.alloc (.cells #[.string PB] 9)).fr hf2 (by simp; omega) (by simp); have hF2 : Fr w.heap.size [] w w2 := (hF1.alloc (by omega) (.cells #[.string PB] 9)).trans (hf2.mono (by simp; omega) (by simp)))
        have hne : padded a ≠ [] := by
          intro e
          have := padded_len a
          rw [e] at this
          simp at this
        rw [Hpad.out] at hC2
        obtain ⟨rr, hS2⟩ := hC2.state hne
        obtain ⟨S, HS⟩ : ∃ S, Hid (S = fs (padded a) ((padded a).length / 64)) := ⟨_, rfl⟩
        rw [← HS.out] at hS2
        obtain ⟨D, HD⟩ : ∃ D, Hid (D = bytesOf S) := ⟨_, rfl⟩
        have hD : D = digest a := by rw [HD.out, HS.out]; rfl
        have hDl : D.length = 32 := by rw [HD.out, bytesOf_len]
        have HDd := Lib.hid hD
        have HDl := Lib.hid hDl
        clear hD hDl hne hC2 hf2 hO1 hC1 hF1 hK1 hcv hcat hcat2
        obtain ⟨w3, hw3⟩ : ∃ w3, w2.alloc (.cells (List.replicate 32 (Value.int .u8 0)).toArray 23) = w3 := ⟨_, rfl⟩
        have hB3 : w.heap.size < w2.heap.size := hO2.lt
        have hB4 : w.heap.size + 1 < w2.heap.size := hS2.lt
        have hD3 : Has w3 w2.heap.size 23 ((fill D 0).map (Value.int .u8)) := by
          have e : fill D 0 = List.replicate 32 0 := by unfold fill; rw [HDl.out]; rfl
          rw [← hw3, e]; exact Has.new _ _ _
        have hS3 : Has w3 (w.heap.size + 1) 34 (S.vals ++ rr) := by rw [← hw3]; exact hS2.alloc _
        have hO3 : Has w3 w.heap.size 23 (List.replicate 32 (Value.int .u8 0)) := by rw [← hw3]; exact hO2.alloc _
        have hF3 : Fr w.heap.size [] w w3 := by rw [← hw3]; exact hF2.alloc hF2.size _
        refine wp_world hw3 ?_
        clear hw3 hO2 hS2 hF2
        go_loopw [45] (fun v wr => ∃ k : Nat, k ≤ 32 ∧ v = .int .i64 (k : Int) ∧ Has wr w2.heap.size 23 ((fill D k).map (Value.int .u8)) ∧ Has wr (w.heap.size + 1) 34 (S.vals ++ rr) ∧ Has wr w.heap.size 23 (List.replicate 32 (Value.int .u8 0)) ∧ Fr w.heap.size [] w wr) (fun v _ => 32 - (intOf v).toNat)
        case atStart => exact ⟨0, by omega, rfl, hD3, hS3, hO3, hF3⟩
        case round =>
          clear hD3 hS3 hO3 hF3
          obtain ⟨q, hq, rfl, hD1, hS1, hO1, hF1⟩ := hrel
          by_cases hlt : q < 32
          · have cs : wr.cell? ⟨w.heap.size + 1, q / 4, none⟩ = some (.int .u32 (S.ints.getD (q / 4) 0)) := by
              rw [hS1.cell, List.getElem?_append_left (by rw [vals_len]; omega)]; exact vals_get _ _ (by omega)
            have cd := hD1.cellD q (by rw [List.length_map, fill_len _ _ (by rw [HDl.out]; exact hq), HDl.out]; exact hlt) undef
            have zd := hD1.frozen q
            have i0 : (0 : Int) ≤ (q : Int) / 4 := by omega
            have i1 : (q : Int) / 4 < 8 := by omega
            have i2 : ((q : Int) / 4).toNat = q / 4 := by omega
            have i3 : (q : Int) < 32 := by omega
            have j0 : (0 : Int) ≤ 24 - 8 * ((q : Int) % 4) := by omega
            have j1 : 24 - 8 * ((q : Int) % 4) ≤ 32 := by omega
            have j2 : (24 - 8 * ((q : Int) % 4)).toNat = 24 - 8 * (q % 4) := by omega
            go_wp2
            go_roundw
            case rel =>
              refine ⟨q + 1, by omega, by go_num, ?_, hS1.far (by simp; omega) _, hO1.far (by simp; omega) _, hF1.setCell (Or.inr (by simp; omega)) _⟩
              have h3 := hD1.set q (.int .u8 (D.getD q 0))
              rw [← List.map_set, fill_set _ _ (by rw [HDl.out]; exact hlt)] at h3
              exact h3.val (by rw [HD.out, bytesOf_get _ _ hlt, List.getD_eq_getElem?_getD])
            case measure => simp [intOf]; omega
          · have hk32 : q = D.length := by rw [HDl.out]; omega
            rw [hk32, fill_all] at hD1
            have hkge : 32 ≤ q := by omega
            obtain ⟨DA, HDA⟩ : ∃ DA, Hid (DA = D.map (Value.int .u8)) := ⟨_, rfl⟩
            rw [← HDA.out] at hD1
            have hlA : DA.length = 32 := by rw [HDA.out, List.length_map, HDl.out]
            have hi23 : (Tryd.prog.info? 23).map (·.size) = some DA.length := by rw [hlA]; exact info23
            have hone : ∀ v ∈ DA, v.oneCell' = true := by rw [HDA.out]; exact ints_oneCell _ _
            have hrg : wr.rangeAt w2.heap.size 0 DA := by
              have := hD1.range 0 32
              rwa [List.drop_zero, List.take_of_length_le (by omega)] at this
            have HlA := Lib.hid hlA
            clear hlA hk32 hlt hq
            go_wp2_with (first
              | (with_reducible refine wpList_load_mid rfl 23 (.tmp 7) rfl w2.heap.size 0 rfl DA _ hrg Tryd.underlying23 rfl hi23 ?_)
              | ((with_reducible refine wpList_store_all rfl 23 (.tmp 2) (.tmp 62) rfl w.heap.size 23 _ DA rfl rfl hO1 ?_ hi23 hone ?_); (rw [HlA.out]; rfl); intro w9 h9 o9))
            refine bodyPost_ret (v := .agg DA.toArray) (results_cell_row rfl _ _ w.heap.size 23 _ _ _ rfl h9 Tryd.underlying23 rfl hi23) rfl ⟨by rw [HDA.out, HDd.out], hF1.one o9 (Or.inr (Nat.le_refl _))⟩
end Go.Proofs.YtpboclafoccfnaaDoor
