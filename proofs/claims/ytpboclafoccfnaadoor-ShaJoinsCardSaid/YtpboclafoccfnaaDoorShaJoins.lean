/- ShaJoins answers true, whatever the sums. -/
import Derived.Test.YtpboclafoccfnaaDoorShaJoin
namespace Go.Proofs.YtpboclafoccfnaaDoor
open Go.RowKit
open Sha
theorem wpList_append_at {P : Program} {ops : Array Oper} {rest : List Oper} {o : Oper} {a : Act} {w : World} {Q : Exit → Act → World → Prop} (hgd : o.guard = none) (s x : Operand) (t : TypeId)
    (ho : o.op = .call { callee := .builtin .append, args := #[s, x], argTypes := #[t, t] })
    (base : Nat) (e : TypeId) (i : TypeInfo) (z : Value) (size bytes : Nat) (ht : P.underlying t = some (.slice e)) (hi : P.info? e = some i) (hz : i.zero = some z)
    (hsize : i.size = size) (hby : i.bytes = bytes) (hzs : z.cells.size = size) (hsz : 0 < size)
    (v : Value) (n : Nat) (xs : List Value) (hs : a.eval s = v) (hown : w.ownsRow base e size v n xs)
    (ad : Addr) (m c : Nat) (news : List Value) (hx : a.eval x = .slice (some ad) m c) (hg : ∀ j u, news[j]? = some u → w.cell? (ad.add j) = some u) (hl : news.length = m * size) (h1 : ∀ u ∈ news, u.oneCell' = true)
    (h63 : n + m ≤ maxLen) (hbytes : (n + m) * bytes ≤ 140737488355328) (hbase : base ≤ w.heap.size)
    (h : ∀ v' w', w'.ownsRow base e size v' (n + m) (xs ++ news) → w.grownBy w' v.ownBlock → wpList P ops Q rest (a.put o.dst v') w') : wpList P ops Q (o :: rest) a w := by
  refine wpList_plain hgd fun K hK => ?_
  obtain ⟨v', w', hrun, h2, h3, _, h5⟩ := run_append_own_at (P := P) w base t o.type e i z size bytes ht hi hz hsize hby hzs hsz v n xs hown ad m c news hl hg h1 h63 hbytes hbase
  unfold Oper.wp execOp
  simp only [ho, resolve, invoke, builtin, Sem.run_bind, Sem.run_pure, Result.andThen_ok, List.map_toArray, List.map_cons, List.map_nil, hs, hx, hrun]
  exact hK _ _ (h v' w' h2 h3)
theorem sums_fr {w w' : World} {B : Nat} {S : List Nat} {A : Option Addr} {ls : List (List Int)} (h : Sums w A ls) (hf : Fr B S w w') (hB : w.heap.size ≤ B) (hS : ∀ b o, A = some ⟨b, o, none⟩ → b ∉ S) : Sums w' A ls := by
  refine ⟨h.1, ?_⟩
  rcases h.2 with h0 | ⟨b, o, hA, hb, hr⟩
  · exact .inl h0
  · exact .inr ⟨b, o, hA, Nat.lt_of_lt_of_le hb hf.size, range_fr hr hf (by omega) (hS b o hA)⟩
theorem sums_take {w : World} {A : Option Addr} {ls : List (List Int)} (h : Sums w A ls) (n : Nat) : Sums w A (ls.take n) := by
  refine ⟨fun l hl => h.1 l (List.mem_of_mem_take hl), ?_⟩
  rcases h.2 with h0 | ⟨b, o, hA, hb, hr⟩
  · exact .inl (by rw [h0]; simp)
  · refine .inr ⟨b, o, hA, hb, ?_⟩
    have e : (ls.take n).flatten ++ (ls.drop n).flatten = ls.flatten := by rw [← List.flatten_append, List.take_append_drop]
    intro j v hv
    refine hr j v ?_
    rw [← e, List.map_append, List.getElem?_append_left]
    · exact hv
    · have := (List.getElem?_eq_some_iff.1 hv).1
      exact this
theorem own_form {w : World} {base n size : Nat} {e : TypeId} {v : Value} {xs : List Value} (h : w.ownsRow base e size v n xs) : ∃ A c, v = .slice A n c ∧ n ≤ c := by
  rcases h.2 with ⟨hv, h0⟩ | ⟨b, cap, cur, hv, _, _, hc, _⟩
  · exact ⟨none, 0, by rw [hv, h0], by omega⟩
  · exact ⟨_, _, hv, hc⟩
theorem sums_own {w : World} {base n c : Nat} {A : Option Addr} {ls : List (List Int)} (h : w.ownsRow base 23 32 (.slice A n c) n (ls.flatten.map (Value.int .u8))) (hn : ls.length = n) (hall : ∀ l ∈ ls, l.length = 32 ∧ ∀ x ∈ l, 0 ≤ x ∧ x < 256) : Sums w A ls := by
  refine ⟨hall, ?_⟩
  rcases h.2 with ⟨hv, h0⟩ | ⟨b, cap, cur, hv, hb, hh, r⟩
  · exact .inl (List.eq_nil_of_length_eq_zero (by omega))
  · have hlt : b < w.heap.size := by
      rcases Nat.lt_or_ge b w.heap.size with hlt | hge
      · exact hlt
      · rw [Array.getElem?_eq_none hge] at hh; cases hh
    rw [hv] at h
    injection hv with hA _ _
    refine .inr ⟨b, 0, hA, hlt, fun j u hu => ?_⟩
    have hj : j < n * 32 := by
      have := (List.getElem?_eq_some_iff.1 hu).1
      rw [List.length_map, flat_len _ (fun l h => (hall l h).1), hn] at this
      exact this
    have := h.cellAt j hj
    rw [Nat.zero_add, this]
    exact hu
theorem join_len (w : World) (A : Option Addr) (n c : Nat) (ls : List (List Int)) (hp : Sums w A ls) (hm : ls.length = n) (hK : Kst w) (hn : ls.length ≤ 60) :
    Calls Tryd.prog 15 #[.slice A n c] w fun e w' => e = .returned (.agg ((digest ls.flatten).map (Value.int .u8)).toArray) ∧ Fr w.heap.size [] w w' := by
  subst hm
  exact join_any w A c ls hp hK hn
theorem rjoin_len (w : World) (A : Option Addr) (n c : Nat) (ls : List (List Int)) (hp : Sums w A ls) (hm : ls.length = n) (hn : ls.length ≤ 60) :
    Calls Tryd.prog 16 #[.slice A n c] w fun e w' => e = .returned (.agg ((digest ls.flatten).map (Value.int .u8)).toArray) ∧ Fr w.heap.size [] w w' := by
  subst hm
  exact rjoin_any w A c ls hp hn
theorem info23b : (Tryd.prog.info? 23).map (fun i => (i.zero, i.size, i.bytes)) = some (some (.agg (List.replicate 32 (Value.int .u8 0)).toArray), 32, 32) := by kernel_rfl
set_option maxHeartbeats 1000000 in
set_option maxRecDepth 100000 in
theorem joins_any (w : World) (A : Option Addr) (c : Nat) (ls : List (List Int)) (hp : Sums w A ls) (hK : Kst w) (hc : ls.length ≤ c) (hA : A = none → c = 0) :
    Calls Tryd.prog 6 #[.slice A ls.length c] w fun e w' => e = .returned (.bool true) ∧ Fr w.heap.size [] w w' := by
  have hk0 := hK.2
  obtain ⟨i0, hi, hz0, hz1, hz2⟩ := info_parts info23b
  rcases A with _ | a
  focus
    obtain rfl : c = 0 := hA rfl
    obtain rfl : ls = [] := by
      rcases hp.2 with h | ⟨b, o, h, _⟩
      · exact h
      · cases h
    go_enter Tryd.func6, Tryd.ntmps6
    go_upto_region 6 with (first
      | (go_at_call 7; (refine (awake_any w hK).mono ?_); rintro e w1 ⟨rfl, hf1⟩; have hK1 := hK.fr hf1 hk0 (by simp)))
    obtain ⟨L, hL0⟩ : ∃ L : List (List Int), L = [] := ⟨_, rfl⟩
    have hm : L.length = 0 := by rw [hL0]; rfl
    have hpL : Sums w none L := by rw [hL0]; exact hp
    obtain ⟨wa, hwa⟩ : ∃ wa, w1 = wa := ⟨_, rfl⟩
    have hFa : Fr w.heap.size [] w wa := hwa ▸ hf1
    have hKa : Kst wa := hwa ▸ hK1
    have hsC : Sums wa none L := sums_fr hpL hFa (Nat.le_refl _) (by simp)
    have hcC : 0 ≤ 0 := Nat.le_refl _
    have hL60 : L.length ≤ 60 := by omega
    refine wp_world hwa ?_
    clear hL0 hwa hf1 hK1
  rotate_left
  focus
    go_enter Tryd.func6, Tryd.ntmps6
    go_upto_region 4 with (first
      | (go_at_call 7; (refine (awake_any w hK).mono ?_); rintro e w1 ⟨rfl, hf1⟩; have hK1 := hK.fr hf1 hk0 (by simp)))
    obtain ⟨L, hL0⟩ : ∃ L : List (List Int), L = ls.take 60 := ⟨_, rfl⟩
    have hm : L.length = 60 := by rw [hL0, List.length_take]; omega
    have hpL : Sums w (some a) L := by rw [hL0]; exact sums_take hp 60
    have hL60 : L.length ≤ 60 := by omega
    clear hL0
    rotate_left
    obtain ⟨L, hL0⟩ : ∃ L : List (List Int), L = ls := ⟨_, rfl⟩
    have hm : L.length = ls.length := by rw [hL0]
    have hpL : Sums w (some a) L := by rw [hL0]; exact hp
    have hL60 : L.length ≤ 60 := by omega
    clear hL0
    all_goals
      have hfl := flat_len L (fun l h => (hpL.1 l h).1)
      have hcells : ∀ j u, (L.flatten.map (Value.int .u8))[j]? = some u → w1.cell? (a.add j) = some u := by
        rcases hpL.2 with h | ⟨b, o, h, hb, hr⟩
        · intro j u hu; rw [h] at hu; simp at hu
        · injection h with h
          subst h
          exact fun j u hu => by rw [Addr.add_mid]; exact range_fr hr hf1 hb (by simp) j u hu
      obtain ⟨news, hnews⟩ : ∃ news, Hid (news = L.flatten.map (Value.int .u8)) := ⟨_, rfl⟩
      have hnl : news.length = L.length * 32 := by rw [hnews.out, List.length_map, hfl]
      rw [hm] at hnl
      have hone : ∀ u ∈ news, u.oneCell' = true := by rw [hnews.out]; exact ints_oneCell _ _
      rw [← hnews.out] at hcells
      have Hcells := Lib.hid hcells
      clear hcells
      go_upto_region 6 with (refine wpList_append_at (by rfl) (.tmp 13) (.tmp 14) 40 rfl w1.heap.size 23 i0 (.agg (List.replicate 32 (Value.int .u8 0)).toArray) 32 32 Tryd.underlying40 hi hz0 hz1 hz2 rfl (by decide) (.slice none 0 0) 0 [] rfl (World.ownsRow_nil _ _ _ _) a _ c news rfl Hcells.out hnl hone (by unfold maxLen; omega) (by omega) (Nat.le_refl _) ?_; intro v' wa hown1 hg1)
      rw [Nat.zero_add, List.nil_append] at hown1
      obtain ⟨A', c', hv', hcC⟩ := own_form hown1
      subst hv'
      have hsC : Sums wa A' L := sums_own (by rw [← hnews.out]; exact hown1) hm hpL.1
      have hFa : Fr w.heap.size [] w wa := hf1.grown hg1 hf1.size (fun q hq => by cases hq)
      have hKa := hK.fr hFa hk0 (by simp)
      clear hown1 hg1 Hcells hone hnl hnews hfl hf1 hK1
  all_goals
    go_upto_region 8 with (first
      | (go_at_call 15; (refine (join_len wa _ _ _ L hsC hm hKa hL60).mono ?_); rintro e w3 ⟨rfl, hf3⟩)
      | ((with_reducible refine wpList_store_all rfl 23 (.tmp 5) (.tmp 17) rfl w3.heap.size 23 _ _ rfl rfl (Has.new w3 23 _) ?_ (by rw [List.length_map, digest_len]; exact info23) (ones_int _ _) ?_); (rw [List.length_map, digest_len]; rfl); intro w9 h9 o9))
    have hF3 := hFa.trans (hf3.mono hFa.size (by simp))
    have hF9 := hF3.new hF3.size o9
    have hf9 : Fr wa.heap.size [] wa w9 := hf3.new hf3.size o9
    have hsC9 := sums_fr hsC hf9 (Nat.le_refl _) (by simp)
    have hw3 := hF3.size
    have hwa3 := hf3.size
    clear o9 hf3 hF3
    go_loopw [6] (fun i wr => ∃ k : Nat, k ≤ L.length ∧ i = .int .i64 (k : Int) ∧ Fr (w3.heap.size + 1) [] w9 wr) (fun i _ => L.length - (intOf i).toNat)
    case atStart => exact ⟨0, by omega, rfl, Fr.refl _ _ _⟩
    case round =>
      obtain ⟨k, hk, rfl, hF⟩ := hrel
      rcases Nat.lt_or_ge k L.length with hlt | hge
      · first
          | (exfalso; omega; done)
          | (obtain ⟨l, hl⟩ : ∃ l, Hid (l = L[k]'hlt) := ⟨L[k]'hlt, rfl⟩
             obtain ⟨b, o, hA, hb, hr⟩ := hpL.at k hlt
             obtain ⟨b', o', hA', hb', hr'⟩ := hsC.at k hlt
             rw [← hl.out] at hr hr'
             injection hA with hA
             subst hA
             subst hA'
             obtain ⟨LA, HL⟩ : ∃ LA, Hid (LA = l.map (Value.int .u8)) := ⟨_, rfl⟩
             rw [← HL.out] at hr hr'
             have hl32 : l.length = 32 := by rw [hl.out]; exact (hpL.1 _ (List.getElem_mem _)).1
             have hlA : LA.length = 32 := by rw [HL.out, List.length_map, hl32]
             have i23 : (Tryd.prog.info? 23).map (·.size) = some LA.length := by rw [hlA]; exact info23
             have heq : ∀ W, (Op.equalIn 10000 23 (.agg LA.toArray) (.agg LA.toArray)).run Tryd.prog W = .ok true W := fun W => by rw [HL.out]; exact eq_same W l hl32
             have hrc : wr.rangeAt b' (o' + k * 32) LA := range_fr (range_fr hr' hf9 hb' (by simp)) hF (by omega) (by simp)
             have hrl : wr.rangeAt b (o + k * 32) LA := range_fr (range_fr hr hF9 hb (by simp)) hF (by omega) (by simp)
             have hone : ∀ v ∈ LA, v.oneCell' = true := by rw [HL.out]; exact ints_oneCell _ _
             have hki : (k : Int) < 60 := by omega
             have hkj : (k : Int) < ls.length := by omega
             clear hr hr' hl32
             go_upto_region 10 with (fail)
             refine wp_region_class (fun W => Fr (w3.heap.size + 1) [] w9 W ∧ W.rangeAt b' (o' + k * 32) LA ∧ W.rangeAt b (o + k * 32) LA) (by kernel_rfl) (by kernel_rfl) (⟨hF.drew, hrc, hrl⟩) ?_
             repeat
               first
                 | (refine wpQuiet_skip (by rfl) ?_; try simp only [Act.put, List.setIfInBounds_toArray, List.set_cons_zero, List.set_cons_succ])
                 | (refine wpQuiet_take (by rfl) ?_
                    apply Exists.intro
                    refine ⟨fun W hW => ?_, ?_⟩
                    · first
                        | (exact quiet_load 23 (.tmp 26) rfl b' (o' + k * 32) rfl _ _ hW.2.1 Tryd.underlying23 rfl i23; done)
                        | (exact quiet_load 23 (.tmp 30) rfl b (o + k * 32) rfl _ _ hW.2.2 Tryd.underlying23 rfl i23; done)
                        | (go_simp; done)
                        | (go_simp; exact rfl)
                    try simp only [Act.put, List.setIfInBounds_toArray, List.set_cons_zero, List.set_cons_succ])
             refine wpQuiet_nil ?_
             intro wq hq
             go_wp2
             go_roundw
             case rel => exact ⟨k + 1, by omega, by go_num, hq.1⟩
             case measure => simp [intOf]; omega)
      · have hkL : k = L.length := by omega
        rw [hm] at hkL
        subst hkL
        have h9r := h9.fr hF (by omega) (by simp)
        have hFr := hF9.trans (hF.mono (by omega) (by simp))
        have hD : ((digest L.flatten).map (Value.int .u8)).length = 32 := by rw [List.length_map, digest_len]
        have i23 : (Tryd.prog.info? 23).map (·.size) = some ((digest L.flatten).map (Value.int .u8)).length := by rw [hD]; exact info23
        have hone := ones_int .u8 (digest L.flatten)
        go_upto_region 12 with (fail)
        refine wp_region_class (fun W => Fr w.heap.size [] w W ∧ Has W w3.heap.size 23 ((digest L.flatten).map (Value.int .u8))) (by kernel_rfl) (by kernel_rfl) (⟨hFr.drew, h9r.drew⟩) ?_
        repeat
          first
            | (refine wpQuiet_skip (by rfl) ?_; try simp only [Act.put, List.setIfInBounds_toArray, List.set_cons_zero, List.set_cons_succ])
            | (refine wpQuiet_take (by rfl) ?_
               apply Exists.intro
               refine ⟨fun W hW => ?_, ?_⟩
               · first
                   | (exact quiet_load 23 (.tmp 5) rfl w3.heap.size 0 rfl _ _ hW.2.whole Tryd.underlying23 rfl i23; done)
                   | (go_simp; done)
                   | (go_simp; exact rfl)
                   | (go_simp; (try refine ⟨rfl, ?_⟩); (go_at_call 16; exact (rjoin_len W _ _ _ L (sums_fr hpL hW.1 (Nat.le_refl _) (by simp)) hm hL60).mono fun e w' ⟨he, hf⟩ => ⟨he, keep23 hf hW⟩); done)
               try simp only [Act.put, List.setIfInBounds_toArray, List.set_cons_zero, List.set_cons_succ])
        refine wpQuiet_nil ?_
        intro wq hq
        go_wp2
        go_ret
        exact ⟨rfl, hq.1⟩
end Go.Proofs.YtpboclafoccfnaaDoor
