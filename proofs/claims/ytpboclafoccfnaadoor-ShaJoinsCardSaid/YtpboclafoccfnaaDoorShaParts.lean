/- ShaParts answers true, whatever the parts. -/
import Derived.Test.YtpboclafoccfnaaDoorShaNil
namespace Go.Proofs.YtpboclafoccfnaaDoor
open Go.RowKit
open Sha
theorem own_fr {w w' : World} {base B : Nat} {S : List Nat} {e : TypeId} {size n : Nat} {v : Value} {xs : List Value} (h : w.ownsRow base e size v n xs) (hf : Fr B S w w') (hB : w.heap.size ≤ B) (hS : ∀ k ∈ S, k < base) : w'.ownsRow base e size v n xs := by
  refine ⟨h.1, ?_⟩
  rcases h.2 with h0 | ⟨g, cap, cur, hv, hb, hg, r⟩
  · exact .inl h0
  · refine .inr ⟨g, cap, cur, hv, hb, ?_, r⟩
    have hlt : g < w.heap.size := by
      rcases Nat.lt_or_ge g w.heap.size with hlt | hge
      · exact hlt
      · rw [Array.getElem?_eq_none hge] at hg; cases hg
    rw [hf.block g (by omega) (fun hk => by have := hS g hk; omega)]
    exact hg
theorem take_str (ps : List ByteArray) (k : Nat) (h : k < ps.length) : (ps.take (k + 1)).map Value.string = (ps.take k).map Value.string ++ [Value.string ps[k]] := by
  rw [List.take_succ_eq_append_getElem h, List.map_append]
  rfl
theorem info9 : (Tryd.prog.info? 9).map (fun i => (i.zero, i.size, i.bytes)) = some (some (.string ⟨#[]⟩), 1, 16) := by kernel_rfl
/-- What was kept, as parts. -/
theorem kept_form {w : World} {base n : Nat} {v : Value} {xs : List Value} (h : w.ownsRow base 9 1 v n xs) : ∃ A c, v = .slice A n c := by
  rcases h.2 with ⟨hv, h0⟩ | ⟨b, cap, cur, hv, _⟩
  · exact ⟨none, 0, by rw [hv, h0]⟩
  · exact ⟨_, _, hv⟩
theorem parts_own {w : World} {base g n c : Nat} {A : Option Addr} {ps : List ByteArray} (h : w.ownsRow base 9 1 (.slice A n c) n (ps.map Value.string)) (hn : ps.length = n) (hg : g < base ∨ w.heap.size ≤ g) : Parts w g A ps := by
  rcases h.2 with ⟨hv, h0⟩ | ⟨b, cap, cur, hv, hb, hh, r⟩
  · exact .inl (List.eq_nil_of_length_eq_zero (by omega))
  · have hlt : b < w.heap.size := by
      rcases Nat.lt_or_ge b w.heap.size with hlt | hge
      · exact hlt
      · rw [Array.getElem?_eq_none hge] at hh; cases hh
    rw [hv] at h
    injection hv with hA _ _
    refine .inr ⟨b, 0, hA, hlt, by omega, fun k hk => ?_⟩
    have := h.cellAt k (by omega)
    rw [Nat.zero_add, this, List.getElem?_map, List.getElem?_eq_getElem hk]
    rfl
theorem hash_drew {w : World} {g : Nat} {a : List Int} (h : HashIs w g a) : HashIs w.drew g a := h
theorem keepP {w a b : World} {g G n : Nat} {cs xs : List Value} {v : Value} {l : List Int} (hf : Fr a.heap.size [] a b) :
    (Fr w.heap.size [] w a ∧ Has a g 23 cs ∧ HashIs a G l ∧ a.ownsRow (G + 1) 9 1 v n xs) → Fr w.heap.size [] w b ∧ Has b g 23 cs ∧ HashIs b G l ∧ b.ownsRow (G + 1) 9 1 v n xs := fun ⟨h, hr, hh, ho⟩ =>
  ⟨h.trans (hf.mono h.size (by simp)), hr.fr hf hr.lt (by simp), hh.fr hf hh.lt (by simp), own_fr ho hf (Nat.le_refl _) (by simp)⟩
theorem ssum_kept (w : World) (A : Option Addr) (n c base : Nat) (ps : List ByteArray) (T : ByteArray) (h : w.ownsRow base 9 1 (.slice A n c) n (ps.map Value.string)) (hn : ps.length = n) (hK : Kst w) (hl : n ≤ 140737488355328) (hT : bl T = cat ps) (hs : T.size ≤ 1000000) :
    Calls Tryd.prog 8 #[.slice A n c] w fun e w' => e = .returned (.agg ((digest (bl T)).map (Value.int .u8)).toArray) ∧ Fr w.heap.size [] w w' := by
  have hp : Parts w w.heap.size A ps := parts_own h hn (.inr (Nat.le_refl _))
  subst hn
  rw [hT]
  exact ssum_any w A c ps hp hK hl (by rw [← hT, bl_len]; exact hs)
set_option maxHeartbeats 1000000 in
set_option maxRecDepth 100000 in
theorem parts_any (w : World) (A : Option Addr) (c : Nat) (ps : List ByteArray) (hp : Parts w w.heap.size A ps) (hK : Kst w) (hn : ps.length * 16 ≤ 140737488355328) (hps : ∀ p ∈ ps, p.size ≤ 140737488355328) :
    Calls Tryd.prog 5 #[.slice A ps.length c] w fun e w' => e = .returned (.bool true) ∧ Fr w.heap.size [] w w' := by
  have hk0 := hK.2
  obtain ⟨i0, hi, hz0, hz1, hz2⟩ := info_parts info9
  go_enter Tryd.func5, Tryd.ntmps5
  go_upto_region 8 with (first
    | (go_at_call 14; refine (new_any w1).mono ?_; rintro e w2 ⟨rfl, hH2, hf2, hs2⟩; have hF2 := hf1.trans (hf2.mono hf1.size (by simp)); have hK2 := hK.fr hF2 hk0 (by simp))
    | (go_at_call 7; (refine (awake_any w hK).mono ?_); rintro e w1 ⟨rfl, hf1⟩; have hK1 := hK.fr hf1 hk0 (by simp)))
  obtain ⟨G, hG⟩ : ∃ G, G = w1.heap.size := ⟨_, rfl⟩
  have hwG : w.heap.size ≤ G := by rw [hG]; exact hf1.size
  rw [← hG] at hH2 hs2 ⊢
  clear hG
  go_loopw [4, 6, 7] (fun all kept i wr => ∃ (k : Nat) (S : ByteArray), k ≤ ps.length ∧ i = .int .i64 (k : Int) ∧ all = .string S ∧ bl S = cat (ps.take k) ∧ S.size ≤ 5000 ∧ wr.ownsRow (G + 1) 9 1 kept k ((ps.take k).map Value.string) ∧ HashIs wr G (bl S) ∧ Fr w.heap.size [] w wr) (fun _ _ i _ => ps.length - (intOf i).toNat)
  case atStart => exact ⟨0, ⟨#[]⟩, by omega, rfl, rfl, rfl, by decide, World.ownsRow_nil _ _ _ _, hH2, hF2⟩
  case round =>
    obtain ⟨k, S, hk, rfl, rfl, hS, hs5, hown, hH, hF⟩ := hrel
    clear hH2 hF2 hK2 hf2 hs2
    have hKr := hK.fr hF hk0 (by simp)
    by_cases hgo : ∃ hlt : k < ps.length, S.size + (ps[k]'hlt).size ≤ 5000
    · obtain ⟨hlt, hfit0⟩ := hgo
      obtain ⟨p, hpk⟩ : ∃ p, Hid (p = ps[k]'hlt) := ⟨ps[k]'hlt, rfl⟩
      obtain ⟨bb, oo, hA, hbs, hbg, hcp⟩ := hp.at k hlt
      have hpc : wr.cell? ⟨bb, oo + k, none⟩ = some (.string p) := by
        rw [hF.cell (p := ⟨bb, oo + k, none⟩) hbs (by simp), hcp, hpk.out]
      subst hA
      have hki : (k : Int) < ps.length := by omega
      have hfit : S.size + p.size ≤ 5000 := by rw [hpk.out]; exact hfit0
      clear hfit0
      have hfi : (S.size : Int) + p.size ≤ 5000 := by omega
      have hsz := hF.size
      have hT5 : (S ++ p).size ≤ 5000 := by rw [ByteArray.size_append]; exact hfit
      have hTl : (bl (S ++ p)).length ≤ 1000000 := by rw [bl_len]; omega
      have hGl := hH.lt
      have hSp : (bl S).length + p.size ≤ 2000000 := by rw [bl_len]; omega
      go_wp2_with (first
        | (go_at_call 13; (refine (hsum_any w6 _ (bl (S ++ p)) (.inr ⟨_, rfl, hH6⟩) hK6 hTl).mono ?_); rintro e w7 ⟨rfl, hf7⟩; have hF7 := hF6.trans (hf7.mono hF6.size (by simp)); have hH7 := hH6.fr hf7 hH6.lt (by simp); have hown7 := own_fr hown6 hf7 (Nat.le_refl _) (by simp))
        | (go_at_call 13; (refine (hsum_any w5 _ (bl (S ++ p)) (.inr ⟨_, rfl, hH5⟩) hK5 hTl).mono ?_); rintro e w6 ⟨rfl, hf6⟩; have hF6 := hF5.trans (hf6.mono hF5.size (by simp)); have hK6 := hK.fr hF6 hk0 (by simp); have hH6 := hH5.fr hf6 hH5.lt (by simp); have hown6 := own_fr hown5 hf6 (Nat.le_refl _) (by simp))
        | (go_at_call 8; (refine (ssum_one w4 (S ++ p) hK4 (by omega)).mono ?_); rintro e w5 ⟨rfl, hf5⟩; have hF5 := hF4.trans (hf5.mono hF4.size (by simp)); have hK5 := hK.fr hF5 hk0 (by simp); have hH5 := hH4.fr hf5 hH4.lt (by simp); have hown5 := own_fr hown4 hf5 (Nat.le_refl _) (by simp))
        | (go_at_call 13; (refine (hsum_any w3 _ (bl (S ++ p)) (.inr ⟨_, rfl, hH3⟩) hK3 hTl).mono ?_); rintro e w4 ⟨rfl, hf4⟩; have hF4 := hF3.trans (hf4.mono hF3.size (by simp)); have hK4 := hK.fr hF4 hk0 (by simp); have hH4 := hH3.fr hf4 hH3.lt (by simp); have hown4 := own_fr hown3 hf4 (Nat.le_refl _) (by simp))
        | (go_at_call 12; (refine (write_one wa p G (bl S) hHa hKa hSp).mono ?_); rintro e w3 ⟨rfl, hH3, hf3⟩; rw [← bl_app] at hH3; have hF3 := hFa.trans (hf3.mono hFa.size (fun q h h2 => by rw [List.mem_singleton] at h; omega)); have hK3 := hK.fr hF3 hk0 (by simp); have hown3 := own_fr hown1 hf3 (Nat.le_refl _) (fun q h => by rw [List.mem_singleton] at h; omega))
        | (refine wpList_append_has (by rfl) (.tmp 36) (.tmp 41) 37 rfl (G + 1) 9 i0 (.string ⟨#[]⟩) 1 16 Tryd.underlying37 hi hz0 hz1 hz2 rfl (by decide) u6 k _ rfl (hown.alloc _) wr.heap.size 1 _ rfl (Has.new _ _ [_]) rfl (fun u hu => by rw [List.mem_singleton] at hu; rw [hu]; rfl) (by unfold maxLen; omega) (by omega) (by simp; omega) ?_; intro v' wa hown1 hg1 _; have hfa : Fr (G + 1) [] wr wa := ((Fr.refl (G + 1) [] wr).alloc hGl _).grown hg1 (by simp; omega) (fun q hq => Or.inr (by have := (hown.lt q hq).1; omega)); have hHa := hH.fr hfa (by omega) (by simp); have hFa := hF.trans (hfa.mono (by omega) (by simp)); have hKa := hK.fr hFa hk0 (by simp); have hpca := (hfa.cell (p := ⟨bb, oo + k, none⟩) (show bb < G + 1 by omega) (by simp)).trans hpc))
      all_goals go_roundw
      case rel =>
        refine ⟨k + 1, S ++ p, by omega, by go_num, rfl, ?_, hT5, ?_, ?_, ?_⟩
        · rw [bl_app, hS, cat_take _ _ hlt, hpk.out]
        · rw [take_str _ _ hlt, ← hpk.out]; first | exact hown7 | exact hown3
        · first | exact hH7 | exact hH3
        · first | exact hF7 | exact hF3
      case measure => simp [intOf]; omega
      case rel =>
        refine ⟨k + 1, S ++ p, by omega, by go_num, rfl, ?_, hT5, ?_, ?_, ?_⟩
        · rw [bl_app, hS, cat_take _ _ hlt, hpk.out]
        · rw [take_str _ _ hlt, ← hpk.out]; first | exact hown7 | exact hown3
        · first | exact hH7 | exact hH3
        · first | exact hF7 | exact hF3
      case measure => simp [intOf]; omega
    · obtain ⟨A1, c1, hv⟩ := kept_form hown
      subst hv
      have hlen : (ps.take k).length = k := by rw [List.length_take]; omega
      have HS := Lib.hid hS
      clear hS
      by_cases hlt : k < ps.length
      · obtain ⟨p, hpk⟩ : ∃ p, Hid (p = ps[k]'hlt) := ⟨ps[k]'hlt, rfl⟩
        obtain ⟨bb, oo, hA, hbs, hbg, hcp⟩ := hp.at k hlt
        have hpc : wr.cell? ⟨bb, oo + k, none⟩ = some (.string p) := by
          rw [hF.cell (p := ⟨bb, oo + k, none⟩) hbs (by simp), hcp, hpk.out]
        subst hA
        have hki : (k : Int) < ps.length := by omega
        have hp64 : p.size ≤ 140737488355328 := by rw [hpk.out]; exact hps _ (List.getElem_mem _)
        have hfit : ¬ (S.size + p.size ≤ 5000) := fun h => hgo ⟨hlt, by rw [← hpk.out]; exact h⟩
        have hfi : ¬ ((S.size : Int) + p.size ≤ 5000) := by omega
        have hfw : ¬ (wrap64 ((S.size : Int) + p.size) ≤ 5000) := by unfold wrap64; omega
        clear hgo
        go_upto_region 17 with (first
          | (go_at_call 9; (refine (rsum_any wr S (by omega)).mono ?_); rintro e w3 ⟨rfl, hf3⟩)
          | ((with_reducible refine wpList_store_all rfl 23 (.tmp 8) (.tmp 67) rfl w3.heap.size 23 _ _ rfl rfl (Has.new w3 23 _) ?_ (by rw [List.length_map, digest_len]; exact info23) (ones_int _ _) ?_); (rw [List.length_map, digest_len]; rfl); intro w9 h9 o9))
        have hF3 := hF.trans (hf3.mono hF.size (by simp))
        have hF9 := hF3.new hF3.size o9
        have hH9 : HashIs w9 G (bl S) := (hH.fr hf3 hH.lt (by simp)).fr ((Fr.refl w3.heap.size [] w3).new (Nat.le_refl _) o9) (Nat.lt_of_lt_of_le hH.lt hf3.size) (by simp)
        have hown9 := own_fr (own_fr hown hf3 (Nat.le_refl _) (by simp)) ((Fr.refl w3.heap.size [] w3).new (Nat.le_refl _) o9) (Nat.le_refl _) (by simp)
        clear o9
        have u23 := Tryd.underlying23
        have hD : ((digest (bl S)).map (Value.int .u8)).length = 32 := by rw [List.length_map, digest_len]
        have i23 : (Tryd.prog.info? 23).map (·.size) = some ((digest (bl S)).map (Value.int .u8)).length := by rw [hD]; exact info23
        have hone := ones_int .u8 (digest (bl S))
        have hSl : (bl S).length ≤ 1000000 := by rw [bl_len]; omega
        obtain ⟨xs, hxs⟩ : ∃ xs, Hid (xs = (ps.take k).map Value.string) := ⟨_, rfl⟩
        rw [← hxs.out] at hown9
        refine wp_region_class (fun W => Fr w.heap.size [] w W ∧ Has W w3.heap.size 23 ((digest (bl S)).map (Value.int .u8)) ∧ HashIs W G (bl S) ∧ W.ownsRow (G + 1) 9 1 (.slice A1 k c1) k xs) (by kernel_rfl) (by kernel_rfl) (⟨hF9.drew, h9.drew, hash_drew hH9, hown9.drew⟩) ?_
        repeat
          first
            | (refine wpQuiet_skip (by rfl) ?_; try simp only [Act.put, List.setIfInBounds_toArray, List.set_cons_zero, List.set_cons_succ])
            | (refine wpQuiet_take (by rfl) ?_
               apply Exists.intro
               refine ⟨fun W hW => ?_, ?_⟩
               · first
                   | (exact quiet_load 23 (.tmp 8) rfl w3.heap.size 0 rfl _ _ hW.2.1.whole u23 rfl i23; done)
                   | (go_simp; done)
                   | (go_simp; exact rfl)
                   | (go_simp; (try refine ⟨rfl, ?_⟩); (go_at_call 13; exact (hsum_any W _ (bl S) (.inr ⟨_, rfl, hW.2.2.1⟩) (hK.fr hW.1 hk0 (by simp)) hSl).mono fun e w' ⟨he, hf⟩ => ⟨he, keepP hf hW⟩); done)
                   | (go_simp; (try refine ⟨rfl, ?_⟩); (go_at_call 8; exact (ssum_kept W A1 k c1 (G + 1) (ps.take k) S (by rw [← hxs.out]; exact hW.2.2.2) hlen (hK.fr hW.1 hk0 (by simp)) (by omega) HS.out (by omega)).mono fun e w' ⟨he, hf⟩ => ⟨he, keepP hf hW⟩); done)
               try simp only [Act.put, List.setIfInBounds_toArray, List.set_cons_zero, List.set_cons_succ])
        refine wpQuiet_nil ?_
        intro wq hq
        go_wp2
        go_ret
        exact ⟨rfl, hq.1⟩
      · have hki : ¬ ((k : Int) < ps.length) := by omega
        clear hgo
        go_upto_region 17 with (first
          | (go_at_call 9; (refine (rsum_any wr S (by omega)).mono ?_); rintro e w3 ⟨rfl, hf3⟩)
          | ((with_reducible refine wpList_store_all rfl 23 (.tmp 8) (.tmp 67) rfl w3.heap.size 23 _ _ rfl rfl (Has.new w3 23 _) ?_ (by rw [List.length_map, digest_len]; exact info23) (ones_int _ _) ?_); (rw [List.length_map, digest_len]; rfl); intro w9 h9 o9))
        have hF3 := hF.trans (hf3.mono hF.size (by simp))
        have hF9 := hF3.new hF3.size o9
        have hH9 : HashIs w9 G (bl S) := (hH.fr hf3 hH.lt (by simp)).fr ((Fr.refl w3.heap.size [] w3).new (Nat.le_refl _) o9) (Nat.lt_of_lt_of_le hH.lt hf3.size) (by simp)
        have hown9 := own_fr (own_fr hown hf3 (Nat.le_refl _) (by simp)) ((Fr.refl w3.heap.size [] w3).new (Nat.le_refl _) o9) (Nat.le_refl _) (by simp)
        clear o9
        have u23 := Tryd.underlying23
        have hD : ((digest (bl S)).map (Value.int .u8)).length = 32 := by rw [List.length_map, digest_len]
        have i23 : (Tryd.prog.info? 23).map (·.size) = some ((digest (bl S)).map (Value.int .u8)).length := by rw [hD]; exact info23
        have hone := ones_int .u8 (digest (bl S))
        have hSl : (bl S).length ≤ 1000000 := by rw [bl_len]; omega
        obtain ⟨xs, hxs⟩ : ∃ xs, Hid (xs = (ps.take k).map Value.string) := ⟨_, rfl⟩
        rw [← hxs.out] at hown9
        refine wp_region_class (fun W => Fr w.heap.size [] w W ∧ Has W w3.heap.size 23 ((digest (bl S)).map (Value.int .u8)) ∧ HashIs W G (bl S) ∧ W.ownsRow (G + 1) 9 1 (.slice A1 k c1) k xs) (by kernel_rfl) (by kernel_rfl) (⟨hF9.drew, h9.drew, hash_drew hH9, hown9.drew⟩) ?_
        repeat
          first
            | (refine wpQuiet_skip (by rfl) ?_; try simp only [Act.put, List.setIfInBounds_toArray, List.set_cons_zero, List.set_cons_succ])
            | (refine wpQuiet_take (by rfl) ?_
               apply Exists.intro
               refine ⟨fun W hW => ?_, ?_⟩
               · first
                   | (exact quiet_load 23 (.tmp 8) rfl w3.heap.size 0 rfl _ _ hW.2.1.whole u23 rfl i23; done)
                   | (go_simp; done)
                   | (go_simp; exact rfl)
                   | (go_simp; (try refine ⟨rfl, ?_⟩); (go_at_call 13; exact (hsum_any W _ (bl S) (.inr ⟨_, rfl, hW.2.2.1⟩) (hK.fr hW.1 hk0 (by simp)) hSl).mono fun e w' ⟨he, hf⟩ => ⟨he, keepP hf hW⟩); done)
                   | (go_simp; (try refine ⟨rfl, ?_⟩); (go_at_call 8; exact (ssum_kept W A1 k c1 (G + 1) (ps.take k) S (by rw [← hxs.out]; exact hW.2.2.2) hlen (hK.fr hW.1 hk0 (by simp)) (by omega) HS.out (by omega)).mono fun e w' ⟨he, hf⟩ => ⟨he, keepP hf hW⟩); done)
               try simp only [Act.put, List.setIfInBounds_toArray, List.set_cons_zero, List.set_cons_succ])
        refine wpQuiet_nil ?_
        intro wq hq
        go_wp2
        go_ret
        exact ⟨rfl, hq.1⟩
end Go.Proofs.YtpboclafoccfnaaDoor
