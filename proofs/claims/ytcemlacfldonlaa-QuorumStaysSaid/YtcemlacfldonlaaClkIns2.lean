/- slices.Insert of one dot: a new row; at the end; all ways. -/
import Derived.Test.YtcemlacfldonlaaClkIns
namespace Go.Proofs.Ytcemlacfldonlaa
open Go.RowKit
open Ck
set_option maxHeartbeats 4000000 in
set_option maxRecDepth 100000 in
theorem ins_grow (w : World) (b c i vb vc : Nat) (l : List Dot) (d : Dot) (cs0 : List Value) (hH : Has w b 92 cs0) (htk : cs0.take (l.length * 2) = l.flatMap Dot.cells) (hi : i < l.length) (hlc : l.length ≤ c) (hroom : c < l.length + 1) (hn63 : l.length ≤ 8796093022207)
    (hv : Has w vb 92 d.cells) :
    Calls Try.prog 39 #[.slice (some ⟨b, 0, none⟩) l.length c, .int .i64 (i : Int), .slice (some ⟨vb, 0, none⟩) 1 vc] w fun e w' =>
      (∃ v', e = .returned v' ∧ w'.ownsRow w.heap.size 92 2 v' (l.length + 1) ((insD l i d).flatMap Dot.cells)) ∧ Fr w.heap.size [] w w' := by
  obtain ⟨n, hn⟩ : ∃ n, l.length = n := ⟨_, rfl⟩
  rw [hn] at htk hi hroom hlc hn63 ⊢
  obtain ⟨i0, hi0, hz0, hzs, hzb⟩ := info_parts infoDot
  have hz2 : ¬ ((i : Int) = (n : Int)) := by omega
  have hz3 : (c : Int) < (n : Int) + 1 := by omega
  have hbw := hH.lt
  have hvw := hv.lt
  have hkk : (n : Int) + 1 - (i : Int) = ((n + 1 - i : Nat) : Int) := by omega
  have hik : i + (n + 1 - i) = n + 1 := by omega
  have hdl : ((l.drop i).flatMap Dot.cells).length = (n - i) * 2 := by rw [flatD_len, List.length_drop, hn]
  have htl : ((l.take i).flatMap Dot.cells).length = i * 2 := by rw [flatD_len, List.length_take, hn, Nat.min_eq_left (by omega)]
  have hget : ∀ j v, (l.flatMap Dot.cells)[j]? = some v → cs0[j]? = some v := fun j v hj => by
    rw [← htk, List.getElem?_take] at hj
    split at hj
    · exact hj
    · cases hj
  have hold : (Builtin.firstCells i0.size i (.slice (some ⟨b, 0, none⟩) i c)).run Try.prog w.drew = .ok ((l.take i).flatMap Dot.cells).toArray w.drew := by
    rw [hzs]
    exact run_firstCells_some w.drew 2 i ⟨b, 0, none⟩ i c ((l.take i).flatMap Dot.cells) htl (fun j v hj => by
      rw [Addr.add_lit, Nat.zero_add]
      rw [← flatD_take, List.getElem?_take] at hj
      split at hj
      · exact (hH.drew.cell _).trans (hget j v hj)
      · cases hj)
  have hrz : ∀ ty, (Builtin.append_ #[31, 3] ty #[.slice (some ⟨b, 0, none⟩) i c, .int .i64 ((n : Int) + 1 - (i : Int))]).run Try.prog w = .ok (.slice (some ⟨w.heap.size, 0, none⟩) (n + 1) (grownCap w (n + 1) c 92)) (w.drew.alloc (.cells (((l.take i).flatMap Dot.cells).toArray ++ Builtin.zeroCells (Value.agg #[Value.int .u64 0, Value.int .u64 0]).cells (n + 1 - i) ++ Builtin.zeroCells (Value.agg #[Value.int .u64 0, Value.int .u64 0]).cells (grownCap w (n + 1) c 92 - (n + 1))) 92)) := fun ty => by
    have h := Lib.run_append_grow_zeros w 31 3 ty 92 i0 _ .i64 .i64 Try.underlying31 Try.underlying3 hi0 hz0 (some ⟨b, 0, none⟩) i c ((l.take i).flatMap Dot.cells) hold (n + 1 - i) (by omega) (by omega) (by omega) (by omega) (by rw [hzb]; omega) (by rw [hzb, hik]; exact growslice_fits hroom (by omega))
    rw [hik] at h
    rw [hkk]
    exact h
  obtain ⟨K, hK⟩ : ∃ K, K = grownCap w (n + 1) c 92 := ⟨_, rfl⟩
  have hGn : n + 1 ≤ K := by rw [hK]; exact grownCap_ge w _ _ _
  have hG63 : K ≤ 9223372036854775807 := by
    have := grownCap_le_maxLen w (n + 1) c 92 (by unfold maxLen; omega)
    rw [← hK] at this
    unfold maxLen at this
    omega
  obtain ⟨ROW, hROW⟩ : ∃ ROW : List Value, ROW.toArray = ((l.take i).flatMap Dot.cells).toArray ++ Builtin.zeroCells (Value.agg #[Value.int .u64 0, Value.int .u64 0]).cells (n + 1 - i) ++ Builtin.zeroCells (Value.agg #[Value.int .u64 0, Value.int .u64 0]).cells (K - (n + 1)) := ⟨(((l.take i).flatMap Dot.cells).toArray ++ Builtin.zeroCells (Value.agg #[Value.int .u64 0, Value.int .u64 0]).cells (n + 1 - i) ++ Builtin.zeroCells (Value.agg #[Value.int .u64 0, Value.int .u64 0]).cells (K - (n + 1))).toList, by simp⟩
  rw [← hK, ← hROW] at hrz
  have hRL : ROW.length = K * 2 := by
    have := congrArg Array.size hROW
    simp only [List.size_toArray, Array.size_append, Builtin.zeroCells, Array.size_map, Array.size_range, htl] at this
    rw [this]
    simp only [Value.cells, List.size_toArray, List.length_cons, List.length_nil]
    omega
  have hRt : ROW.take (i * 2) = (l.take i).flatMap Dot.cells := by
    have := congrArg Array.toList hROW
    simp only [Array.toList_append, List.append_assoc] at this
    rw [this, ← htl, List.take_left]
  clear hold hkk hROW hK
  have hRw : Has (w.drew.alloc (.cells ROW.toArray 92)) w.heap.size 92 ROW := Has.new w.drew 92 ROW
  obtain ⟨W1, hW1⟩ : ∃ W1, W1 = w.drew.alloc (.cells ROW.toArray 92) := ⟨_, rfl⟩
  have hv1 : Has W1 vb 92 d.cells := by rw [hW1]; exact hv.drew.alloc _
  have hH1 : Has W1 b 92 cs0 := by rw [hW1]; exact hH.drew.alloc _
  have hF1 : Fr w.heap.size [] w W1 := by rw [hW1]; exact (Fr.refl w.heap.size [] w).drew.alloc (Nat.le_refl _) _
  rw [← hW1] at hrz hRw
  clear hW1
  have hcpA : ∀ (W : World), W.heap = W1.heap → ∀ ty dc, (Builtin.copy_ #[31, 30] ty #[.slice (some ⟨w.heap.size, i * 2, none⟩) (n + 1 - i) dc, .slice (some ⟨vb, 0, none⟩) 1 vc]).run Try.prog W = .ok (goInt 1) (W.setCells w.heap.size (i * 2) d.cells) := fun W hW ty dc => by
    have hRW : Has W w.heap.size 92 ROW := by unfold Has; rw [hW]; exact hRw
    have hvW : Has W vb 92 d.cells := by unfold Has; rw [hW]; exact hv1
    have hmin : Nat.min 1 (n + 1 - i) = 1 := by simp only [Nat.min_def]; split <;> omega
    have h := run_copy_k (P := Try.prog) W 31 30 ty 92 2 w.heap.size (i * 2) (n + 1 - i) dc ⟨vb, 0, none⟩ 1 vc d.cells Try.underlying31 sizeDot (by rw [hmin]; rfl)
      (fun j v hj => by rw [Addr.add_lit, Nat.zero_add]; exact (hvW.cell _).trans hj) (fun j hj => by rw [hRW.cell, List.getElem?_eq_getElem (by rw [hRL]; simp [Dot.cells] at hj; omega)]; rfl) (fun j hj => hRW.frozen _) (by intro u hu; simp only [Dot.cells, List.mem_cons, List.not_mem_nil, or_false] at hu; rcases hu with rfl | rfl <;> rfl)
    rw [hmin] at h
    exact h
  have hGi : ¬ (K = i) := by omega
  have hGim : ¬ (K = i + 1) := by omega
  have hci : ¬ (c = i) := by omega
  have hw1 : IntKind.i64.wrap ((i : Int) + 1) = (i : Int) + 1 := IntWalk.i64_in _ (by omega)
  have hb1 : (0 : Int) ≤ (i : Int) + 1 := by omega
  have hin : i ≤ n := by omega
  have htn : ((i : Int) + 1).toNat = i + 1 := by omega
  have hb3 : (i : Int) ≤ (n : Int) := by omega
  obtain ⟨h2, o2⟩ := setCells_has d.cells (i * 2) W1 ROW hRw (by rw [hRL]; simp [Dot.cells]; omega)
  obtain ⟨W2, hW2⟩ : ∃ W2, W1.setCells w.heap.size (i * 2) d.cells = W2 := ⟨_, rfl⟩
  have hcpA' : ∀ ty dc, (Builtin.copy_ #[31, 30] ty #[.slice (some ⟨w.heap.size, i * 2, none⟩) (n + 1 - i) dc, .slice (some ⟨vb, 0, none⟩) 1 vc]).run Try.prog W1 = .ok (goInt 1) W2 := fun ty dc => by rw [← hW2]; exact hcpA W1 rfl ty dc
  rw [hW2] at h2 o2
  clear hW2 hcpA
  have hH2 : Has W2 b 92 cs0 := hH1.one o2 (by omega)
  obtain ⟨R2, hR2⟩ : ∃ R2, ROW.take (i * 2) ++ d.cells ++ ROW.drop (i * 2 + d.cells.length) = R2 := ⟨_, rfl⟩
  have hR2l : R2.length = K * 2 := by rw [← hR2]; simp only [List.length_append, List.length_take, List.length_drop, hRL]; simp [Dot.cells]; omega
  have hR2t : R2.take ((i + 1) * 2) = (l.take i).flatMap Dot.cells ++ d.cells := by
    rw [← hR2, hRt, show (i + 1) * 2 = ((l.take i).flatMap Dot.cells ++ d.cells).length by rw [List.length_append, htl]; simp [Dot.cells]; omega, List.take_left]
  rw [hR2] at h2
  clear hR2
  have hgd : ∀ j v, ((l.drop i).flatMap Dot.cells)[j]? = some v → cs0[i * 2 + j]? = some v := fun j v hj => hget _ _ (by rw [← flatD_drop, List.getElem?_drop] at hj; exact hj)
  have hcpB : ∀ ty dc sc, (Builtin.copy_ #[31, 31] ty #[.slice (some ⟨w.heap.size, (i + 1) * 2, none⟩) (n - i) dc, .slice (some ⟨b, i * 2, none⟩) (n - i) sc]).run Try.prog W2.drew = .ok (goInt ((n - i : Nat) : Int)) (W2.drew.setCells w.heap.size ((i + 1) * 2) ((l.drop i).flatMap Dot.cells)) := fun ty dc sc => by
    have hmin : Nat.min (n - i) (n - i) = n - i := by simp only [Nat.min_def]; split <;> rfl
    have h := run_copy_k (P := Try.prog) W2.drew 31 31 ty 92 2 w.heap.size ((i + 1) * 2) (n - i) dc ⟨b, i * 2, none⟩ (n - i) sc ((l.drop i).flatMap Dot.cells) Try.underlying31 sizeDot (by rw [hdl, hmin])
      (fun j v hj => by rw [Addr.add_lit]; exact (hH2.drew.cell _).trans (hgd j v hj)) (fun j hj => by rw [h2.drew.cell, List.getElem?_eq_getElem (by omega)]; rfl) (fun j hj => h2.drew.frozen _) (onesD _)
    rw [hmin] at h
    exact h
  obtain ⟨h3, o3⟩ := setCells_has ((l.drop i).flatMap Dot.cells) ((i + 1) * 2) W2.drew R2 h2.drew (by rw [hdl, hR2l]; omega)
  have hF3 : Fr w.heap.size [] w (W2.drew.setCells w.heap.size ((i + 1) * 2) ((l.drop i).flatMap Dot.cells)) := ((hF1.one o2 (.inr (Nat.le_refl _))).drew).one o3 (.inr (Nat.le_refl _))
  have hrow : (W2.drew.setCells w.heap.size ((i + 1) * 2) ((l.drop i).flatMap Dot.cells)).ownsRow w.heap.size 92 2 (.slice (some ⟨w.heap.size, 0, none⟩) (n + 1) K) (n + 1) ((insD l i d).flatMap Dot.cells) := by
    refine ⟨?_, .inr ⟨w.heap.size, K, _, rfl, Nat.le_refl _, h3, hGn, by unfold maxLen; omega, ?_, ?_⟩⟩
    · rw [flatD_len]
      simp [insD, hn]
      omega
    · simp only [List.size_toArray, List.length_append, List.length_take, List.length_drop, hR2l, hdl]
      omega
    · rw [List.toList_toArray, hR2t, List.take_append_of_le_length (by simp only [List.length_append, htl, hdl]; simp [Dot.cells]; omega), List.take_of_length_le (by simp only [List.length_append, htl, hdl]; simp [Dot.cells]; omega)]
      simp [insD]
  have mixed : Try.prog.follows .mixedOrders = true := by kernel_rfl
  go_enter Try.func39, Try.ntmps39
  go_wp2_with (first
    | (at_builtin; refine Lib.wpList_append_run _ rfl _ _ _ _ rfl _ _ rfl rfl _ _ (hrz _) ?_)
    | (at_builtin; refine wpList_copy_runI _ rfl _ _ 31 30 rfl _ _ rfl rfl (hcpA' _ _) ?_))
  go_region_law_o (refine step_copy_runI rfl _ _ 31 31 rfl _ _ (by simp [Act.eval, Act.put]) (by simp [Act.eval, Act.put]) (hcpB _ _ _) ?_)
  go_wp2
  go_ret
  exact ⟨⟨_, rfl, hrow⟩, hF3⟩
theorem row_base {w : World} {base base' e size n : Nat} {v : Value} {xs : List Value} (h : w.ownsRow base' e size v n xs) (hb : base ≤ base') : w.ownsRow base e size v n xs := by
  refine ⟨h.1, ?_⟩
  rcases h.2 with h0 | ⟨g, cap, cur, rfl, hg, r⟩
  · exact .inl h0
  · exact .inr ⟨g, cap, cur, rfl, Nat.le_trans hb hg, r⟩
theorem run_append_type {P : Program} (w : World) (t tx e e' ty : TypeId) (s x : Value) (ht : P.underlying t = some (.slice e)) (hx : P.underlying tx = some (.slice e')) :
    (Builtin.append_ #[t, tx] ty #[s, x]).run P w = (Builtin.append_ #[t, t] ty #[s, x]).run P w := by
  cases s <;> simp [Builtin.append_, Sem.run_bind, run_underlying ht, run_underlying hx]
set_option maxHeartbeats 4000000 in
set_option maxRecDepth 100000 in
theorem ins_end (w : World) (base : Nat) (v : Value) (vb : Nat) (l : List Dot) (d : Dot) (h : w.ownsRow base 92 2 v l.length (l.flatMap Dot.cells)) (hn63 : l.length ≤ 8796093022207) (hbase : base ≤ w.heap.size) (hv : Has w vb 92 d.cells) :
    Calls Try.prog 39 #[v, .int .i64 (l.length : Int), .slice (some ⟨vb, 0, none⟩) 1 1] w fun e w' =>
      (∃ v', e = .returned v' ∧ w'.ownsRow base 92 2 v' (l.length + 1) ((insD l l.length d).flatMap Dot.cells) ∧ (v'.ownBlock = v.ownBlock ∨ v'.ownBlock = some w.heap.size)) ∧ Fr w.heap.size v.ownBlock.toList w w' := by
  obtain ⟨i0, hi, hz0, hz1, hz2⟩ := info_parts infoDot
  obtain ⟨n, hn⟩ : ∃ n, l.length = n := ⟨_, rfl⟩
  have hins : (insD l l.length d).flatMap Dot.cells = l.flatMap Dot.cells ++ d.cells := by unfold insD; rw [List.take_length, List.drop_length, List.flatMap_append]; simp
  rw [hins]
  rw [hn] at h hn63 ⊢
  have hrun := fun ty => run_append_own_at (P := Try.prog) w base 31 ty 92 i0 _ 2 16 Try.underlying31 hi hz0 hz1 hz2 rfl (by decide) v n _ h ⟨vb, 0, none⟩ 1 1 d.cells rfl (fun j u hu => by rw [Addr.add_mid, Nat.zero_add, hv.cell]; exact hu) (by intro u hu; simp only [Dot.cells, List.mem_cons, List.not_mem_nil, or_false] at hu; rcases hu with rfl | rfl <;> rfl) (by unfold maxLen; omega) (by omega) hbase
  obtain ⟨v', w', hr, h1, h2, _, h3⟩ := hrun 31
  have hr' := (run_append_type (P := Try.prog) w 31 30 _ _ 31 v (.slice (some ⟨vb, 0, none⟩) 1 1) Try.underlying31 Try.underlying30).trans hr
  have hF : Fr w.heap.size v.ownBlock.toList w w' := (Fr.refl _ _ _).grown h2 (Nat.le_refl _) (fun k hk => .inl (by simp [hk]))
  have h0 := h.2
  clear hrun hr h2
  rcases (show (v = .slice none 0 0 ∧ n = 0) ∨ ∃ g cap, v = .slice (some ⟨g, 0, none⟩) n cap by
    rcases h0 with h0 | ⟨g, cap, cur, rfl, _⟩
    · exact .inl h0
    · exact .inr ⟨g, cap, rfl⟩) with ⟨rfl, rfl⟩ | ⟨g, cap, rfl⟩
  all_goals
    clear h0
    go_enter Try.func39, Try.ntmps39
    go_wp2_with (at_builtin; refine Lib.wpList_append_run _ rfl _ _ _ _ rfl _ _ rfl rfl _ _ hr' ?_)
    all_goals
      go_ret
      exact ⟨⟨_, rfl, h1, h3⟩, hF⟩
/-- One dot is put in. -/
theorem ins_any (w : World) (base : Nat) (v : Value) (vb i : Nat) (l : List Dot) (d : Dot) (h : w.ownsRow base 92 2 v l.length (l.flatMap Dot.cells)) (hi : i ≤ l.length) (hn63 : l.length ≤ 8796093022207) (hbase : base ≤ w.heap.size) (hv : Has w vb 92 d.cells) (hne : v.ownBlock ≠ some vb) :
    Calls Try.prog 39 #[v, .int .i64 (i : Int), .slice (some ⟨vb, 0, none⟩) 1 1] w fun e w' =>
      (∃ v', e = .returned v' ∧ w'.ownsRow base 92 2 v' (l.length + 1) ((insD l i d).flatMap Dot.cells) ∧ (v'.ownBlock = v.ownBlock ∨ ∃ k, v'.ownBlock = some k ∧ w.heap.size ≤ k)) ∧ Fr w.heap.size v.ownBlock.toList w w' := by
  rcases Nat.lt_or_ge i l.length with hlt | hge
  · rcases h.2 with ⟨rfl, h0⟩ | ⟨g, cap, cur, rfl, hbg, hg, hnc, hcm, hcs, htk⟩
    · omega
    · have hH : Has w g 92 cur.toList := hg
      by_cases hroom : l.length + 1 ≤ cap
      · refine (ins_shift w g cap i vb 1 l d cur.toList hH (by simpa using hcs) htk hlt hroom hcm (fun e => hne (by rw [e]; rfl)) hv).mono ?_
        rintro e w' ⟨rfl, rfl⟩
        have hdl : ((l.drop i).flatMap Dot.cells).length = (l.length - i) * 2 := by rw [flatD_len, List.length_drop]
        have hcl : cur.toList.length = cap * 2 := by simpa using hcs
        obtain ⟨h1, o1⟩ := setCells_has ((l.drop i).flatMap Dot.cells) ((i + 1) * 2) w.drew cur.toList hH.drew (by rw [hdl]; omega)
        obtain ⟨h2, o2⟩ := setCells_has d.cells (i * 2) _ _ h1 (by simp only [List.length_append, List.length_take, List.length_drop, hdl, hcl]; simp [Dot.cells]; omega)
        refine ⟨⟨_, rfl, ⟨by rw [flatD_len]; simp [insD]; omega, .inr ⟨g, cap, _, rfl, hbg, h2, hroom, hcm, by simp only [List.size_toArray, List.length_append, List.length_take, List.length_drop, hdl, hcl]; simp [Dot.cells]; omega, ?_⟩⟩, .inl rfl⟩, (((Fr.refl _ _ w).drew).one o1 (.inl (by simp [Value.ownBlock]))).one o2 (.inl (by simp [Value.ownBlock]))⟩
        have ht1 : (cur.toList.take ((i + 1) * 2) ++ (l.drop i).flatMap Dot.cells ++ cur.toList.drop ((i + 1) * 2 + ((l.drop i).flatMap Dot.cells).length)).take (i * 2) = (l.take i).flatMap Dot.cells := by
          rw [List.append_assoc, List.take_append_of_le_length (by rw [List.length_take, hcl]; omega), List.take_take, Nat.min_eq_left (by omega), ← flatD_take, ← htk, List.take_take, Nat.min_eq_left (by omega)]
        have ht2 : (cur.toList.take ((i + 1) * 2) ++ (l.drop i).flatMap Dot.cells ++ cur.toList.drop ((i + 1) * 2 + ((l.drop i).flatMap Dot.cells).length)).drop (i * 2 + d.cells.length) = (l.drop i).flatMap Dot.cells ++ cur.toList.drop ((i + 1) * 2 + ((l.drop i).flatMap Dot.cells).length) := by
          rw [List.append_assoc, show i * 2 + d.cells.length = (cur.toList.take ((i + 1) * 2)).length by rw [List.length_take, hcl]; simp [Dot.cells]; omega, List.drop_left]
        have htl : ((l.take i).flatMap Dot.cells).length = i * 2 := by rw [flatD_len, List.length_take, Nat.min_eq_left (by omega)]
        rw [List.toList_toArray, ht1, ht2, ← List.append_assoc, List.take_append_of_le_length (by simp only [List.length_append, htl, hdl]; simp [Dot.cells]; omega), List.take_of_length_le (by simp only [List.length_append, htl, hdl]; simp [Dot.cells]; omega)]
        simp [insD]
      · refine (ins_grow w g cap i vb 1 l d cur.toList hH htk hlt hnc (by omega) hn63 hv).mono ?_
        rintro e w' ⟨⟨v', rfl, h1⟩, h2⟩
        refine ⟨⟨v', rfl, row_base h1 hbase, ?_⟩, h2.mono (Nat.le_refl _) (by simp)⟩
        rcases h1.2 with ⟨_, h0⟩ | ⟨g', cap', _, rfl, hb', _⟩
        · omega
        · exact .inr ⟨g', rfl, hb'⟩
  · obtain rfl : i = l.length := by omega
    refine (ins_end w base v vb l d h hn63 hbase hv).mono ?_
    rintro e w' ⟨⟨v', rfl, h1, h2⟩, h3⟩
    exact ⟨⟨v', rfl, h1, h2.imp id fun h => ⟨_, h, Nat.le_refl _⟩⟩, h3⟩
end Go.Proofs.Ytcemlacfldonlaa
