/- NetOnce: the walk. -/
import Derived.Test.YtjlpbhmhnniodaaNetFull
import Derived.Test.YtjlpbhmhnniodaaNetPlain
import Derived.Test.YtjlpbhmhnniodaaNetOpens
import Derived.Test.YtjlpbhmhnniodaaClass
namespace Go.Proofs.Ytjlpbhmhnniodaa
open Go.RowKit Go.Maps
open Nt
theorem op_cells {w : World} {N : Nat} {A : Option Addr} {us : List OpV} (h : ARow w N A (us.flatMap OpV.cells)) (k : Nat) (hk : k < us.length) : ∃ blk o, A = some ⟨blk, o, none⟩ ∧ blk < N ∧
    w.cell? ⟨blk, o + k * 6, none⟩ = some (.int .i64 us[k].kind) ∧ w.cell? ⟨blk, o + k * 6 + 1, none⟩ = some (.int .i64 us[k].a) ∧ w.cell? ⟨blk, o + k * 6 + 2, none⟩ = some (.int .i64 us[k].b) ∧ w.cell? ⟨blk, o + k * 6 + 3, none⟩ = some (.int .i64 us[k].pick) ∧
    w.cell? ⟨blk, o + k * 6 + 4, none⟩ = some (.slice us[k].A1 us[k].n1 us[k].c1) ∧ w.cell? ⟨blk, o + k * 6 + 5, none⟩ = some (.slice us[k].A2 us[k].n2 us[k].c2) := by
  obtain ⟨blk, o, hA, hb, hc⟩ := h.at (c := 6) (fun _ => rfl) (by decide) k hk
  exact ⟨blk, o, hA, hb, hc 0 _ rfl, hc 1 _ rfl, hc 2 _ rfl, hc 3 _ rfl, hc 4 _ rfl, hc 5 _ rfl⟩
/-- The message that is sent j-th. -/
def Nt.onM (os : List OpV) (j : Nat) : Msg := ⟨(j : Int) + 1, (os.getD j default).a, (os.getD j default).b, strOfNums [(j : Int)]⟩
def Nt.onMs (os : List OpV) (k : Nat) : List Msg := (List.range k).map (onM os)
/-- How far it is: k were sent, ms are under way, all others were delivered once. -/
structure Nt.Inv (os : List OpV) (k : Nat) (ms : List Msg) (gs : List Int) : Prop where
  once : Once ms
  sub : ∀ m ∈ ms, ∃ j, j < k ∧ m = onM os j
  len : gs.length = 61
  got : ∀ t, t < 61 → gs[t]? = some (if 1 ≤ t ∧ t ≤ k ∧ ∀ m ∈ ms, m.n ≠ (t : Int) then 1 else 0)
theorem Nt.Inv.start (os : List OpV) : Inv os 0 [] (List.replicate 61 0) := ⟨by simp [Once], by simp, by simp, fun t ht => by rw [List.getElem?_replicate, if_pos ht, if_neg (by omega)]⟩
theorem Nt.Inv.send {os : List OpV} {k : Nat} {ms : List Msg} {gs : List Int} (h : Inv os k ms gs) : Inv os (k + 1) (ms ++ [onM os k]) gs where
  once := by
    unfold Once
    rw [List.map_append, List.nodup_append]
    refine ⟨h.once, by simp, fun a ha b hb => ?_⟩
    obtain ⟨m, hm, rfl⟩ := List.mem_map.1 ha
    obtain ⟨j, hj, rfl⟩ := h.sub m hm
    simp only [List.map_cons, List.map_nil, List.mem_singleton] at hb
    subst hb
    simp only [onM]
    omega
  sub := by
    intro m hm
    rcases List.mem_append.1 hm with hm | hm
    · obtain ⟨j, hj, e⟩ := h.sub m hm
      exact ⟨j, by omega, e⟩
    · simp only [List.mem_singleton] at hm
      exact ⟨k, by omega, hm⟩
  len := h.len
  got := by
    intro t ht
    rw [h.got t ht]
    congr 1
    have e : (1 ≤ t ∧ t ≤ k ∧ ∀ m ∈ ms, m.n ≠ (t : Int)) ↔ (1 ≤ t ∧ t ≤ k + 1 ∧ ∀ m ∈ ms ++ [onM os k], m.n ≠ (t : Int)) := by
      constructor
      · rintro ⟨h1, h2, h3⟩
        refine ⟨h1, by omega, fun m hm => ?_⟩
        rcases List.mem_append.1 hm with hm | hm
        · exact h3 m hm
        · simp only [List.mem_singleton] at hm
          subst hm
          simp only [onM]
          omega
      · rintro ⟨h1, h2, h3⟩
        have h4 := h3 (onM os k) (by simp)
        simp only [onM] at h4
        exact ⟨h1, by omega, fun m hm => h3 m (by simp [hm])⟩
    simp only [e]
theorem Nt.Inv.take {os : List OpV} {k : Nat} {ms : List Msg} {gs : List Int} (h : Inv os k ms gs) (hk : k ≤ 60) {x : Msg} (hx : x ∈ ms) : ∃ j, j < k ∧ x = onM os j ∧ gs[j + 1]? = some 0 ∧ Inv os k (ms.filter fun y => !(y.n == x.n)) (gs.set (j + 1) 1) := by
  obtain ⟨j, hj, e⟩ := h.sub x hx
  have hxn : x.n = (j : Int) + 1 := by rw [e]; rfl
  refine ⟨j, hj, e, ?_, h.once.filter _, fun m hm => h.sub m (List.mem_filter.1 hm).1, by simp [h.len], fun t ht => ?_⟩
  · rw [h.got (j + 1) (by omega), if_neg]
    rintro ⟨_, _, h3⟩
    exact h3 x hx (by rw [hxn]; omega)
  · rw [List.getElem?_set]
    by_cases e2 : j + 1 = t
    · subst e2
      rw [if_pos rfl, if_pos (by rw [h.len]; omega), if_pos]
      refine ⟨by omega, by omega, fun m hm e3 => ?_⟩
      have := (List.mem_filter.1 hm).2
      simp only [Bool.not_eq_true', beq_eq_false_iff_ne] at this
      exact this (by rw [hxn, e3]; omega)
    · rw [if_neg e2, h.got t ht]
      congr 1
      have e4 : (1 ≤ t ∧ t ≤ k ∧ ∀ m ∈ ms, m.n ≠ (t : Int)) ↔ (1 ≤ t ∧ t ≤ k ∧ ∀ m ∈ ms.filter (fun y => !(y.n == x.n)), m.n ≠ (t : Int)) := by
        constructor
        · rintro ⟨h1, h2, h3⟩
          exact ⟨h1, h2, fun m hm => h3 m (List.mem_filter.1 hm).1⟩
        · rintro ⟨h1, h2, h3⟩
          refine ⟨h1, h2, fun m hm e5 => ?_⟩
          refine h3 m (List.mem_filter.2 ⟨hm, ?_⟩) e5
          simp only [Bool.not_eq_true', beq_eq_false_iff_ne]
          rw [hxn, e5]
          omega
      simp only [e4]
theorem Nt.Inv.done {os : List OpV} {k : Nat} {gs : List Int} (h : Inv os k [] gs) (t : Nat) (h1 : 1 ≤ t) (h2 : t ≤ k) (h3 : t < 61) : gs[t]? = some 1 := by
  rw [h.got t h3, if_pos ⟨h1, h2, by simp⟩]
theorem Nt.onMs_succ (os : List OpV) (k : Nat) : onMs os (k + 1) = onMs os k ++ [onM os k] := by unfold onMs; rw [List.range_succ, List.map_append]; rfl
theorem Nt.onMs_len (os : List OpV) (k : Nat) : (onMs os k).length = k := by simp [onMs]
theorem Nt.onMs_get (os : List OpV) (k j : Nat) (h : j < (onMs os k).length) : (onMs os k)[j] = onM os j := by simp [onMs]
/-- append onto a row of the call's own, the net beside it. -/
theorem Nt.At.grown {B : Nat} {K K' : List Nat} {w W W' : World} {g : Nat} {made : Int} {ms : List Msg} {D : List (Pair × Unit)} {row row' : Option Nat} (h : At B K w W g made ms D) (hg : W.grownBy W' row) (hr : ∀ k, row = some k → k ∈ K ∧ B ≤ k)
    (hr' : row' = row ∨ row' = some W.heap.size) (hlt : ∀ k, row' = some k → k < W'.heap.size) (hK : ∀ k ∈ K', k ∈ K ∨ row' = some k) : At B K' w W' g made ms D := by
  have hlo := h.lo
  obtain ⟨F, h1, h2, h3, h4⟩ := h
  have hf : Fr W.heap.size row.toList W W' := (Fr.refl _ _ _).grown hg (Nat.le_refl _) (fun k hk => .inl (by simp [hk]))
  have hsz := hf.size
  have hK2 : ∀ k ∈ K', k ∈ K ∨ k = W.heap.size := fun k hk => by
    rcases hK k hk with h | h
    · exact .inl h
    · rcases hr' with e | e
      · exact .inl (hr k (e ▸ h)).1
      · rw [e] at h; injection h with h; exact .inr h.symm
  refine ⟨F, h1.fr h1.lt (fun k hk => by simp [Option.mem_toList]; intro e; exact (h2 k hk).2 (hr k e).1) hf, fun q hq => ⟨(h2 q hq).1, fun hk => ?_⟩, fun k hk => ?_, h4.trans (hf.mono hlo fun q hq hl => ?_)⟩
  · rcases hK2 q hk with h | h
    · exact (h2 q hq).2 h
    · have := h1.lt q hq; omega
  · rcases hK k hk with h | h
    · exact Nat.lt_of_lt_of_le (h3 k h) hsz
    · exact hlt k h
  · have := (hr q (by simpa [Option.mem_toList] using hq)).2
    omega
theorem Nt.Kp.own {K : List Nat} {W W' : World} (h : Kp K W W') {base e size n : Nat} {v : Value} {xs : List Value} (ho : W.ownsRow base e size v n xs) (hb : ∀ k, v.ownBlock = some k → k ∈ K) : W'.ownsRow base e size v n xs := by
  refine ⟨ho.1, ?_⟩
  rcases ho.2 with h0 | ⟨g, cap, cur, rfl, hb', hg, r⟩
  · exact .inl h0
  · exact .inr ⟨g, cap, cur, rfl, hb', (h g (hb g rfl)).trans hg, r⟩
theorem run_byte (w : World) (g k : Nat) (h : Has w g 5 [.int .u8 (k : Int)]) : (convert 31 9 (.slice (some ⟨g, 0, none⟩) 1 1)).run Try.prog w = .ok (.string (strOfNums [(k : Int)])) w :=
  run_convert_bytes_arg (P := Try.prog) w 31 5 Try.underlying31 Try.underlying5 g 0 1 1 [(k : Int)] rfl (fun i hi => by
      rw [h.cell]
      match i, hi with
      | 0, _ => rfl) 9 Try.underlying9
theorem Nt.onM_send (os : List OpV) (k : Nat) (ms : List Msg) (hl : ms.length < 4096) : sendS (os.getD k default).a (os.getD k default).b [strOfNums [(k : Int)]] (k : Int) ms = (((k + 1 : Nat) : Int), ms ++ [onM os k], 1) := by
  unfold sendS
  rw [if_neg (by omega)]
  rfl
theorem Nt.cutS_len (D : List (Pair × Unit)) (a c : Int) : (cutS D a c).length ≤ D.length + 1 := by
  unfold cutS
  split
  · omega
  · unfold putL
    split <;> simp
theorem Nt.Kp.trans {K : List Nat} {a b c : World} (h : Kp K a b) (k : Kp K b c) : Kp K a c := fun q hq => (k q hq).trans (h q hq)
theorem Nt.Kp.refl (K : List Nat) (a : World) : Kp K a a := fun _ _ => rfl
theorem info3 : (Try.prog.info? 3).map (fun i => (i.zero, i.size, i.bytes)) = some (some (.int .i64 0), 1, 8) := by kernel_rfl
set_option maxHeartbeats 20000000 in
set_option maxRecDepth 100000 in
theorem once_law (w : World) (A : Option Addr) (c : Nat) (os : List OpV) (hA : ARow w w.heap.size A (os.flatMap OpV.cells)) (hok : ∀ o ∈ os, o.ok) :
    Calls Try.prog 3 #[.slice A os.length c] w fun e w' => e = .returned (.bool true) ∧ Fr w.heap.size [] w w' := by
  obtain ⟨Z, hZ⟩ : ∃ Z : Array Value, Hid (Z = (List.replicate 61 (Value.int .i64 0)).toArray) := ⟨_, rfl⟩
  have hmk : ∀ W, (Instr.makeSlice 27 (.int .i64 61) (.int .i64 61)).run Try.prog W = .ok (.slice (some ⟨W.heap.size, 0, none⟩) 61 61) (W.alloc (.cells Z 3)) := fun W => by
    obtain ⟨i0, hi, hz0, hz1, hz2⟩ := info_parts info3
    have h1 := run_make (P := Try.prog) W 27 3 i0 _ Try.underlying27 hi hz0 .i64 .i64 61 61 (by omega) (by omega) (by rw [hz2]; decide) (by decide)
    rw [h1, hz1, hZ.out]
    congr 3
    apply Array.ext'
    rw [List.toList_toArray]
    exact toList_madeCells_one _ _
  go_enter Try.func3, Try.ntmps3
  go_wp2_with (first
    | (go_at_call 8; (refine (at_new w1).mono ?_); rintro e w2 ⟨rfl, h2⟩)
    | (go_at_call 7; (refine (awake_any w).mono ?_); rintro e w1 ⟨rfl, f1⟩))
  have hlo2 := (h2.base f1.size f1).lo
  have h3 := (h2.base f1.size f1).keep (.cells Z 3)
  clear h2
  obtain ⟨G, hG⟩ : ∃ G, G = w1.heap.size := ⟨_, rfl⟩
  rw [← hG] at h3
  have hGs : w1.heap.size = G := hG.symm
  rw [hGs]
  clear hG hGs
  obtain ⟨g2, hg2⟩ : ∃ g2, g2 = w2.heap.size := ⟨_, rfl⟩
  have hHs : Has (w2.alloc (.cells Z 3)) g2 3 (List.replicate 61 (Value.int .i64 0)) := by rw [hZ.out, hg2]; exact Has.new w2 3 (List.replicate 61 (Value.int .i64 0))
  rw [← hg2] at h3 hlo2
  have hgs : w2.heap.size = g2 := hg2.symm
  rw [hgs]
  clear hg2 hgs
  go_loopw [5, 7] (fun v i wr => ∃ (k : Nat) (ms : List Msg) (D : List (Pair × Unit)) (gs : List Int), k ≤ os.length ∧ k ≤ 60 ∧ i = .int .i64 (k : Int) ∧ wr.ownsRow w.heap.size 34 4 v k ((onMs os k).flatMap Msg.cells) ∧ At w.heap.size (g2 :: v.ownBlock.toList) w wr G (k : Int) ms D ∧ D.length ≤ k ∧ ms.length ≤ k ∧ Inv os k ms gs ∧ Has wr g2 3 (gs.map (Value.int .i64)) ∧ v.ownBlock ≠ some g2) (fun _ i _ => 60 - (intOf i).toNat)
  case atStart => exact ⟨0, [], [], List.replicate 61 0, by omega, by omega, rfl, World.ownsRow_nil _ _ _ _, h3, by simp, by simp, .start os, by simpa using hHs, by simp [Value.ownBlock]⟩
  case round =>
    obtain ⟨k, ms, D, gs, hk, hk60, rfl, hown, h, hDl, hml, hInv, hgs, hne⟩ := hrel
    by_cases hlt : k < os.length ∧ k < 60
    · obtain ⟨hl1, hl2⟩ := hlt
      have hki : (k : Int) < os.length := by omega
      have hkj : (k : Int) < 60 := by omega
      obtain ⟨blk, o, rfl, hbk, d0, d1, d2, d3, d4, d5⟩ := op_cells (hA.fr h.frame (Nat.le_refl _) (by simp)) k hl1
      have hgd : os[k] = os.getD k default := by rw [List.getD_eq_getElem?_getD, List.getElem?_eq_getElem hl1]; rfl
      rw [hgd] at d0 d1 d2 d3 d4 d5
      have hok1 : (os.getD k default).ok := by rw [← hgd]; exact hok _ (List.getElem_mem hl1)
      have hS := onM_send os k ms (by omega)
      have hM : onM os k = ⟨(k : Int) + 1, (os.getD k default).a, (os.getD k default).b, strOfNums [(k : Int)]⟩ := rfl
      have hInv1 := hInv.send
      have hMs := onMs_succ os k
      obtain ⟨x, hx⟩ : ∃ x, onM os k = x := ⟨_, rfl⟩
      rw [hx] at hS hM hInv1 hMs
      have hxc : x.cells = [.int .i64 ((k : Int) + 1), .int .i64 (os.getD k default).a, .int .i64 (os.getD k default).b, .string (strOfNums [(k : Int)])] := by rw [hM]; rfl
      obtain ⟨op, hop⟩ : ∃ op, os.getD k default = op := ⟨_, rfl⟩
      rw [hop] at d0 d1 d2 d3 d4 d5 hok1 hS hxc
      clear hgd hop hx hM
      obtain ⟨kd, a, b, pk, A1, n1, c1, A2, n2, c2⟩ := op
      obtain ⟨ok0, ok1, ok2, ok3⟩ := hok1
      simp only at d0 d1 d2 d3 d4 d5 hS hxc ok0 ok1 ok2 ok3
      obtain ⟨bd, hbd⟩ : ∃ bd, strOfNums [(k : Int)] = bd := ⟨_, rfl⟩
      have hcv := run_byte ((wr.alloc (.cells #[.int .i64 kd, .int .i64 a, .int .i64 b, .int .i64 pk, .slice A1 n1 c1, .slice A2 n2 c2] 30)).alloc (.cells #[.int .u8 (k : Int)] 5)) (wr.heap.size + 1) k (Has.new' _ _ _ (by simp))
      rw [hbd] at hcv hS hxc
      clear hbd
      have h4 := (h.keep (.cells #[.int .i64 kd, .int .i64 a, .int .i64 b, .int .i64 pk, .slice A1 n1 c1, .slice A2 n2 c2] 30)).alloc (.cells #[.int .u8 (k : Int)] 5)
      have q1 := at_send1g h4 (by omega) (by omega) a b ok1 ok2 bd (wr.heap.size + 2) (by simp) _ _ _ hS
      clear hS
      have HB := (Has.new wr 30 [.int .i64 kd, .int .i64 a, .int .i64 b, .int .i64 pk, .slice A1 n1 c1, .slice A2 n2 c2]).alloc (.cells #[.int .u8 (k : Int)] 5)
      have hown2 := (hown.alloc (.cells #[.int .i64 kd, .int .i64 a, .int .i64 b, .int .i64 pk, .slice A1 n1 c1, .slice A2 n2 c2] 30)).alloc (.cells #[.int .u8 (k : Int)] 5)
      have hgs2 := (hgs.alloc (.cells #[.int .i64 kd, .int .i64 a, .int .i64 b, .int .i64 pk, .slice A1 n1 c1, .slice A2 n2 c2] 30)).alloc (.cells #[.int .u8 (k : Int)] 5)
      have hol := hown.lt
      have hgl := hgs.lt
      have hwlo := h.lo
      obtain ⟨i0, hi, hz0, hz1, hz2⟩ := info_parts infoMsg
      obtain ⟨As, cp, hu5⟩ := own_len hown
      subst hu5
      go_upto_region 16 with (first
        | (at_builtin; refine wpList_append_has (by rfl) _ _ 26 (by rfl) w.heap.size 34 i0 (.agg #[.int .i64 0, .int .i64 0, .int .i64 0, .string ⟨#[]⟩]) 4 40 Try.underlying26 hi hz0 hz1 hz2 rfl (by decide) _ k _ (by rfl) (hown3.alloc _) w3.heap.size 1 [.int .i64 ((k : Int) + 1), .int .i64 a, .int .i64 b, .string bd] (by rfl) (Has.new' _ _ _ rfl) rfl (ones_msg rfl rfl rfl rfl) (by unfold maxLen; omega) (by omega) (by simp; omega) ?_; intro v' w4 hB4 hg4 hv4; obtain ⟨A4, c4, rfl⟩ := own_len hB4;
            have fr4 := (Fr.refl (w3.alloc (.cells #[.int .i64 ((k : Int) + 1), .int .i64 a, .int .i64 b, .string bd] 34)).heap.size (Value.slice As k cp).ownBlock.toList (w3.alloc (.cells #[.int .i64 ((k : Int) + 1), .int .i64 a, .int .i64 b, .string bd] 34))).grown hg4 (Nat.le_refl _) (fun q hq => .inl (by simp [hq]));
            have hlw := HB3.lt;
            have HB4 := (HB3.alloc (.cells #[.int .i64 ((k : Int) + 1), .int .i64 a, .int .i64 b, .string bd] 34)).fr fr4 (by simp; omega) (by simp [Option.mem_toList]; intro e; have := (hol _ e).2; omega);
            have hgs4 := (hgs3.alloc (.cells #[.int .i64 ((k : Int) + 1), .int .i64 a, .int .i64 b, .string bd] 34)).fr fr4 (by simp; omega) (by simpa [Option.mem_toList] using hne);
            have h6 := (h5.alloc (.cells #[.int .i64 ((k : Int) + 1), .int .i64 a, .int .i64 b, .string bd] 34)).grown (K' := wr.heap.size :: g2 :: (Value.slice A4 (k + 1) c4).ownBlock.toList) hg4 (fun q hq => ⟨by simp [hq], (hol q hq).1⟩) hv4 (fun q hq => (hB4.lt q hq).2) (fun q hq => by simp only [List.mem_cons, Option.mem_toList] at hq ⊢; rcases hq with h | h | h; exact .inl (.inl h); exact .inl (.inr (.inl h)); exact .inr h);
            have hne4 : (Value.slice A4 (k + 1) c4).ownBlock ≠ some g2 := (fun e => by
              rcases hv4 with e2 | e2
              · exact hne (e2 ▸ e)
              · rw [e2] at e
                injection e with e
                simp at e
                omega);
            have hown4 : w4.ownsRow w.heap.size 34 4 (Value.slice A4 (k + 1) c4) (k + 1) ((onMs os (k + 1)).flatMap Msg.cells) := (by
              rw [hMs, List.flatMap_append, List.flatMap_cons, List.flatMap_nil, hxc, List.append_nil]
              exact hB4);
            obtain ⟨y0, y1, y2, y3⟩ : _ ∧ _ ∧ _ ∧ _ := ⟨HB4.cell 0, HB4.cell 1, HB4.cell 2, HB4.cell 3⟩)
        | (go_at_call 9; (refine q1.mono ?_); rintro e w3 ⟨rfl, h5, k5⟩; have HB3 := k5.has (by simp) HB; have hown3 := k5.own hown2 (fun q hq => by simp [hq]); have hgs3 := k5.has (by simp) hgs2; have hw3 := h5.lo; obtain ⟨x0, x1, x2, x3⟩ : _ ∧ _ ∧ _ ∧ _ := ⟨HB3.cell 0, HB3.cell 1, HB3.cell 2, HB3.cell 3⟩))
      obtain ⟨M, hM⟩ : ∃ M, ms ++ [x] = M := ⟨_, rfl⟩
      have hMl : M.length ≤ k + 1 := by rw [← hM, List.length_append]; simp; omega
      rw [hM] at h6 hInv1
      clear hM h5 k5 hB4 hg4 hv4 fr4 HB3 hown3 hgs3 hMs hxc hInv hown h hgs hown2 hgs2 HB h4 q1 hcv
      have hown4' := fun q (hq : (Value.slice A4 (k + 1) c4).ownBlock = some q) => (show q ∈ wr.heap.size :: g2 :: (Value.slice A4 (k + 1) c4).ownBlock.toList by simp [hq])
      obtain ⟨md, hmd⟩ : ∃ md, kd.tmod 4 = md := ⟨_, rfl⟩
      rw [hmd]
      clear hmd
      have hrest : ∀ q, q ∈ g2 :: (Value.slice A4 (k + 1) c4).ownBlock.toList → q ∈ wr.heap.size :: g2 :: (Value.slice A4 (k + 1) c4).ownBlock.toList := fun q hq => List.mem_cons_of_mem _ hq
      rcases (show (md = 1 ∨ md = -1) ∨ (md = 2 ∨ md = -2) ∨ ((md == 1) = false ∧ (md == -1) = false ∧ (md == 2) = false ∧ (md == -2) = false) by simp; omega) with hc | hc | ⟨n1, n2, n3, n4⟩
      · have hD2 := cutS_len D b a
        have q2 := at_cut h6 b a ok2 ok1
        obtain ⟨D2, hD2e⟩ : ∃ D2, cutS D b a = D2 := ⟨_, rfl⟩
        rw [hD2e] at q2 hD2
        clear hD2e
        have q3 := fun (W : World) (hW : At w.heap.size (wr.heap.size :: g2 :: (Value.slice A4 (k + 1) c4).ownBlock.toList) w W G ((k + 1 : Nat) : Int) M D2) => at_take' hW (by omega) pk ok3 _ _ rfl rfl _ rfl _ rfl
        by_cases hz : M.filter (wantB D2 []) = []
        · obtain ⟨ht1, ht2⟩ := taken_none pk hz
          rw [ht1, ht2] at q3
          simp only [Option.getD_none, Option.isSome_none] at q3
          generalize zeroMsg = z at q3
          rcases hc with rfl | rfl
          all_goals
            go_upto_region 20 with (first
              | (go_at_call 11; (refine (q3 _ h7).mono ?_); rintro e w6 ⟨rfl, h8, k8⟩; have hown6 := k8.own hown5 hown4'; have hgs6 := k8.has (by simp) hgs5)
              | (go_at_call 10; (refine q2.mono ?_); rintro e w5 ⟨rfl, h7, k7⟩; have hown5 := k7.own hown4 hown4'; have hgs5 := k7.has (by simp) hgs4; have HB5 := k7.has (by simp) HB4; clear y0 y1 y2 y3; obtain ⟨y0, y1, y2, y3⟩ : _ ∧ _ ∧ _ ∧ _ := ⟨HB5.cell 0, HB5.cell 1, HB5.cell 2, HB5.cell 3⟩))
            go_region
            all_goals
              go_wp2
              go_roundw
              case rel => exact ⟨k + 1, M, D2, gs, by omega, by omega, by go_num, (hown6.alloc _), ((h8.alloc _).drop hrest).drew, by omega, hMl, hInv1, hgs6.alloc _, hne4⟩
              case measure => simp [intOf]; omega
        · obtain ⟨y, ht1, hy1, hy2, ht2⟩ := taken_some pk hz
          rw [ht1, ht2] at q3
          obtain ⟨j, hj, hye, hgj, hInv2⟩ := hInv1.take (by omega) hy1
          have hMl2 : (M.filter fun z => !(z.n == y.n)).length ≤ k + 1 := Nat.le_trans (List.length_filter_le _ _) hMl
          obtain ⟨M2, hM2⟩ : ∃ M2, (M.filter fun z => !(z.n == y.n)) = M2 := ⟨_, rfl⟩
          rw [hM2] at q3 hInv2 hMl2
          simp only [Option.getD_some, Option.isSome_some] at q3
          have hyn : y.n = (j : Int) + 1 := by rw [hye]; rfl
          have hjoin : joinB D2 y.src y.dst = true := by
            unfold wantB at hy2
            simp only [Bool.and_eq_true] at hy2
            exact hy2.1
          have hyM : okI y.n ∧ okI y.src ∧ okI y.dst := by
            obtain ⟨F6, h61, _⟩ := h6
            exact h61.msgs y hy1
          have hcells : ∀ W : World, W.ownsRow w.heap.size 34 4 (Value.slice A4 (k + 1) c4) (k + 1) ((onMs os (k + 1)).flatMap Msg.cells) → ∃ blk o, A4 = some ⟨blk, o, none⟩ ∧
              W.cell? ⟨blk, o + j * 4, none⟩ = some (.int .i64 ((j : Int) + 1)) ∧ W.cell? ⟨blk, o + j * 4 + 1, none⟩ = some (.int .i64 y.src) ∧ W.cell? ⟨blk, o + j * 4 + 2, none⟩ = some (.int .i64 y.dst) ∧ W.cell? ⟨blk, o + j * 4 + 3, none⟩ = some (.string y.body) := by
            intro W hW
            obtain ⟨A', c', he, hA'⟩ := row_arow hW (onMs_len os (k + 1))
            injection he with he _ _
            subst he
            obtain ⟨blk, o, h1, _, h2, h3, h4, h5⟩ := msg_cells hA' j (by rw [onMs_len]; exact hj)
            rw [onMs_get, ← hye] at h2 h3 h4 h5
            rw [hyn] at h2
            exact ⟨blk, o, h1, h2, h3, h4, h5⟩
          rw [hyn] at q3
          clear ht1 ht2 hye hM2 hy1 hy2 hyn
          obtain ⟨yn, ys, yd, yb⟩ := y
          simp only at hcells q3 hjoin hyM
          obtain ⟨_, oks, okd⟩ := hyM
          have hjk1 : decide ((j : Int) + 1 < 1) = false := by rw [decide_eq_false_iff_not]; omega
          have hjk2 : decide (k < j) = false := by rw [decide_eq_false_iff_not]; omega
          have hjk5 : decide ((k : Int) + 1 < (j : Int) + 1) = false := by rw [decide_eq_false_iff_not]; omega
          have hjk3 : (j : Int) < (k : Int) + 1 := by omega
          have hjk6 : j ≤ k := by omega
          have hwj : IntKind.i64.wrap (j : Int) = (j : Int) := IntWalk.i64_in _ (by omega)
          have hj0 : (0 : Int) ≤ (j : Int) := by omega
          have hjk7 : (j : Int) ≤ (k : Int) := by omega
          have hjk4 : (j : Int) + 1 < 61 := by omega
          rcases hc with rfl | rfl
          all_goals
            go_upto_region 20 with (first
              | (go_at_call 11; (refine (q3 _ h7).mono ?_); rintro e w6 ⟨rfl, h8, k8⟩; have hown6 := k8.own hown5 hown4'; have hgs6 := k8.has (by simp) hgs5)
              | (go_at_call 10; (refine q2.mono ?_); rintro e w5 ⟨rfl, h7, k7⟩; have hown5 := k7.own hown4 hown4'; have hgs5 := k7.has (by simp) hgs4; have HB5 := k7.has (by simp) HB4; clear y0 y1 y2 y3; obtain ⟨y0, y1, y2, y3⟩ : _ ∧ _ ∧ _ ∧ _ := ⟨HB5.cell 0, HB5.cell 1, HB5.cell 2, HB5.cell 3⟩))
            have h9 := (h8.keep (.cells #[.int .i64 ((j : Int) + 1), .int .i64 ys, .int .i64 yd, .string yb] 34)).drew
            have HM := (Has.new w6 34 [.int .i64 ((j : Int) + 1), .int .i64 ys, .int .i64 yd, .string yb]).drew
            have hown7 := hown6.alloc (.cells #[.int .i64 ((j : Int) + 1), .int .i64 ys, .int .i64 yd, .string yb] 34)
            have hgs7 := (hgs6.alloc (.cells #[.int .i64 ((j : Int) + 1), .int .i64 ys, .int .i64 yd, .string yb] 34)).drew
            obtain ⟨blk, o, hA4, s0, s1, s2, s3⟩ := hcells (w6.alloc (.cells #[.int .i64 ((j : Int) + 1), .int .i64 ys, .int .i64 yd, .string yb] 34)).drew hown7
            obtain ⟨m0, m1, m2, m3⟩ : _ ∧ _ ∧ _ ∧ _ := ⟨HM.cell 0, HM.cell 1, HM.cell 2, HM.cell 3⟩
            subst hA4
            rw [show ((k + 1 : Nat) : Int) = (k : Int) + 1 by omega] at h9
            have hjo : ∀ W, At w.heap.size (w6.heap.size :: wr.heap.size :: g2 :: (Value.slice (some ⟨blk, o, none⟩) (k + 1) c4).ownBlock.toList) w W G ((k : Int) + 1) M2 D2 → _ := fun W hW => at_joined hW ys yd oks okd
            rw [hjoin] at hjo
            obtain ⟨Wd, hWd⟩ : ∃ Wd, Hid (Wd = (w6.alloc (.cells #[.int .i64 ((j : Int) + 1), .int .i64 ys, .int .i64 yd, .string yb] 34)).drew) := ⟨_, rfl⟩
            rw [← hWd.out] at h9 HM hgs7 s0 s1 s2 s3 m0 m1 m2 m3
            have hbk9 : blk ∈ w6.heap.size :: wr.heap.size :: g2 :: (Value.slice (some ⟨blk, o, none⟩) (k + 1) c4).ownBlock.toList := by simp [Value.ownBlock]
            have hrd : ∀ W, Kp (w6.heap.size :: wr.heap.size :: g2 :: (Value.slice (some ⟨blk, o, none⟩) (k + 1) c4).ownBlock.toList) Wd W →
                W.cell? ⟨w6.heap.size, 0, none⟩ = some (.int .i64 ((j : Int) + 1)) ∧ W.cell? ⟨w6.heap.size, 1, none⟩ = some (.int .i64 ys) ∧ W.cell? ⟨w6.heap.size, 2, none⟩ = some (.int .i64 yd) ∧ W.cell? ⟨w6.heap.size, 3, none⟩ = some (.string yb) ∧
                W.cell? ⟨blk, o + j * 4, none⟩ = some (.int .i64 ((j : Int) + 1)) ∧ W.cell? ⟨blk, o + j * 4 + 1, none⟩ = some (.int .i64 ys) ∧ W.cell? ⟨blk, o + j * 4 + 2, none⟩ = some (.int .i64 yd) ∧ W.cell? ⟨blk, o + j * 4 + 3, none⟩ = some (.string yb) := fun W hW => ⟨hW.cell (by simp) m0, hW.cell (by simp) m1, hW.cell (by simp) m2, hW.cell (by simp) m3, hW.cell hbk9 s0, hW.cell hbk9 s1, hW.cell hbk9 s2, hW.cell hbk9 s3⟩
            refine wp_region_class (fun W => At w.heap.size (w6.heap.size :: wr.heap.size :: g2 :: (Value.slice (some ⟨blk, o, none⟩) (k + 1) c4).ownBlock.toList) w W G ((k : Int) + 1) M2 D2 ∧ Kp (w6.heap.size :: wr.heap.size :: g2 :: (Value.slice (some ⟨blk, o, none⟩) (k + 1) c4).ownBlock.toList) Wd W) (by kernel_rfl) (by kernel_rfl) (by rw [← hWd.out]; exact ⟨h9, Kp.refl _ _⟩) ?_
            repeat
              first
                | (refine wpQuiet_skip (by rfl) ?_; try simp only [Act.put, List.setIfInBounds_toArray, List.set_cons_zero, List.set_cons_succ])
                | (refine wpQuiet_take (by rfl) ?_
                   apply Exists.intro
                   refine ⟨fun W hW => ?_, ?_⟩
                   · first
                       | ((obtain ⟨t0, t1, t2, t3, t4, t5, t6, t7⟩ := hrd _ hW.2; go_simp; exact rfl); done)
                       | ((obtain ⟨t0, t1, t2, t3, t4, t5, t6, t7⟩ := hrd _ hW.2; go_simp); done)
                       | (go_simp; done)
                       | (go_simp; exact rfl)
                       | (go_simp; (try refine ⟨rfl, ?_⟩); (go_at_call 12; exact (hjo _ hW.1).mono fun e w' ⟨he, h1, h2⟩ => ⟨he, h1, hW.2.trans h2⟩); done)
                   try simp only [Act.put, List.setIfInBounds_toArray, List.set_cons_zero, List.set_cons_succ])
            refine wpQuiet_nil ?_
            intro wq hq
            obtain ⟨t0, t1, t2, t3, t4, t5, t6, t7⟩ := hrd _ hq.2
            have hgsq := hq.2.has (by simp) hgs7
            have gc : wq.cell? ⟨g2, j + 1, none⟩ = some (.int .i64 0) := by rw [hgsq.cell, List.getElem?_map, hgj]; rfl
            have gz := hgsq.frozen (j + 1)
            have hjt : ((j : Int) + 1).toNat = j + 1 := by omega
            have hjw : IntKind.i64.wrap ((j : Int) + 1) = (j : Int) + 1 := IntWalk.i64_in _ (by omega)
            have hj1 : (0 : Int) ≤ (j : Int) + 1 := by omega
            have hownq : wq.ownsRow w.heap.size 34 4 (Value.slice (some ⟨blk, o, none⟩) (k + 1) c4) (k + 1) ((onMs os (k + 1)).flatMap Msg.cells) := hq.2.own (by rw [hWd.out]; exact hown7) (fun q hq => by simp [hq])
            have hqe := ownsRow_one hownq ((One.refl g2 wq).setCell (j + 1) (.int .i64 1)) hne4
            have hAe := (hq.1.write (b := g2) (by simp) hlo2 ((One.refl g2 wq).setCell (j + 1) (.int .i64 1))).drop (fun q hq => List.mem_cons_of_mem _ (hrest q hq))
            have hGe := hgsq.set (j + 1) (.int .i64 1)
            have hgse : (gs.map (Value.int .i64)).set (j + 1) (.int .i64 1) = (gs.set (j + 1) 1).map (Value.int .i64) := by rw [List.map_set]
            rw [hgse] at hGe
            clear hrd hjo hcells q3 q2
            go_wp2
            go_roundw
            case rel => exact ⟨k + 1, M2, D2, gs.set (j + 1) 1, by omega, by omega, by go_num, hqe, hAe, by omega, hMl2, hInv2, hGe, hne4⟩
            case measure => simp [intOf]; omega
      · have q2 := at_heal1 h6 (by omega) a
        have hD2 : (healS D [a]).length ≤ D.length := List.length_filter_le _ _
        rcases hc with rfl | rfl
        all_goals
          go_wp2_with (go_at_call 13; (refine q2.mono ?_); rintro e w5 ⟨rfl, h7, k7⟩)
          go_roundw
          case rel => exact ⟨k + 1, M, healS D [a], gs, by omega, by omega, by go_num, k7.own hown4 hown4', h7.drop hrest, by omega, hMl, hInv1, k7.has (by simp) hgs4, hne4⟩
          case measure => simp [intOf]; omega
      · go_wp2
        go_roundw
        case rel => exact ⟨k + 1, M, D, gs, by omega, by omega, by go_num, hown4, h6.drop hrest, by omega, hMl, hInv1, hgs4, hne4⟩
        case measure => simp [intOf]; omega
    · have q1 := at_heal0 h (by omega) 0
      rw [heal_all] at q1
      obtain ⟨As, cp, hu5⟩ := own_len hown
      subst hu5
      have hown' := fun q (hq : (Value.slice As k cp).ownBlock = some q) => (show q ∈ g2 :: (Value.slice As k cp).ownBlock.toList by simp [hq])
      rcases (show ((k : Int) < os.length ∧ ¬ (k : Int) < 60) ∨ ¬ (k : Int) < os.length by omega) with ⟨hl1, hl2⟩ | hl1
      all_goals
        go_wp2_with (go_at_call 13; (refine q1.mono ?_); rintro e w5 ⟨rfl, h5, k5⟩; have hown5 := k5.own hown hown'; have hgs5 := k5.has (by simp) hgs)
        obtain ⟨w7, rfl⟩ : ∃ w7, w7 = wr := ⟨wr, rfl⟩
        go_loopw [12] (fun i wr => ∃ (t : Nat) (M : List Msg) (gv : List Int), t ≤ k ∧ i = .int .i64 (t : Int) ∧ At w.heap.size (g2 :: (Value.slice As k cp).ownBlock.toList) w wr G (k : Int) M [] ∧ M.length + t ≤ k ∧ Inv os k M gv ∧ Has wr g2 3 (gv.map (Value.int .i64)) ∧ wr.ownsRow w.heap.size 34 4 (Value.slice As k cp) k ((onMs os k).flatMap Msg.cells)) (fun i _ => k + 1 - (intOf i).toNat)
        case atStart => exact ⟨0, ms, gs, by omega, rfl, h5, by omega, hInv, hgs5, hown5⟩
        case round =>
          obtain ⟨t, M, gv, ht, rfl, h, hMt, hInv, hgs, hown⟩ := hrel
          have hti : (t : Int) < (k : Int) + 1 := by omega
          have hpk : okI ((t : Int) * 3) := by unfold okI; omega
          have q3 := at_take' h (by omega) ((t : Int) * 3) hpk _ _ rfl rfl _ rfl _ rfl
          by_cases hz : M.filter (wantB [] []) = []
          · obtain ⟨ht1, ht2⟩ := taken_none ((t : Int) * 3) hz
            rw [ht1, ht2] at q3
            rw [want_all] at hz
            subst hz
            simp only [Option.getD_none, Option.isSome_none] at q3
            generalize zeroMsg = z at q3
            go_wp2_with (go_at_call 11; (refine q3.mono ?_); rintro e w6 ⟨rfl, h8, k8⟩; have hgs6 := (k8.has (by simp) hgs).alloc (.cells #[.int .i64 z.n, .int .i64 z.src, .int .i64 z.dst, .string z.body] 34); have h9 := h8.alloc (.cells #[.int .i64 z.n, .int .i64 z.src, .int .i64 z.dst, .string z.body] 34))
            have q5 := at_waits0 h9 (by simp) 0
            rw [want_all] at q5
            simp only [List.length_nil] at q5
            have hdone := hInv.done
            obtain ⟨WW, hWW⟩ : ∃ WW, w6.alloc (.cells #[.int .i64 z.n, .int .i64 z.src, .int .i64 z.dst, .string z.body] 34) = WW := ⟨_, rfl⟩
            rw [hWW] at hgs6 h9 q5 ⊢
            clear hWW
            go_loop [15] (fun i => ∃ t2 : Nat, 1 ≤ t2 ∧ t2 ≤ k + 1 ∧ i = .int .i64 (t2 : Int)) (fun i => k + 1 - (intOf i).toNat)
            case atStart => exact ⟨1, by omega, by omega, rfl⟩
            case round =>
              obtain ⟨t2, hta, htb, rfl⟩ := hrel
              by_cases hlt : t2 ≤ k
              · have hti2 : (t2 : Int) ≤ (k : Int) := by omega
                have ht61 : t2 < 61 := by omega
                have htz : (t2 : Int) < 61 := by omega
                have gc : WW.cell? ⟨g2, t2, none⟩ = some (.int .i64 1) := by rw [hgs6.cell, List.getElem?_map, hdone t2 hta hlt ht61]; rfl
                go_wp2
                go_round
                case rel => exact ⟨t2 + 1, by omega, by omega, by go_num⟩
                case measure => simp [intOf]; omega
              · have hti2 : ¬ (t2 : Int) ≤ (k : Int) := by omega
                go_wp2_with (go_at_call 14; (refine q5.mono ?_); rintro e w8 ⟨A8, c8, rfl, _, h10, _⟩)
                go_ret
                exact ⟨rfl, h10.frame⟩
          · obtain ⟨y, ht1, hy1, hy2, ht2⟩ := taken_some ((t : Int) * 3) hz
            rw [ht1, ht2] at q3
            obtain ⟨j, hj, hye, hgj, hInv2⟩ := hInv.take (by omega) hy1
            have hMl2 := hInv.once.less hy1
            obtain ⟨M2, hM2⟩ : ∃ M2, (M.filter fun z => !(z.n == y.n)) = M2 := ⟨_, rfl⟩
            rw [hM2] at q3 hInv2 hMl2
            simp only [Option.getD_some, Option.isSome_some] at q3
            have hyn : y.n = (j : Int) + 1 := by rw [hye]; rfl
            have hcells : ∀ W : World, W.ownsRow w.heap.size 34 4 (Value.slice As k cp) k ((onMs os k).flatMap Msg.cells) → ∃ blk o, As = some ⟨blk, o, none⟩ ∧
                W.cell? ⟨blk, o + j * 4, none⟩ = some (.int .i64 ((j : Int) + 1)) ∧ W.cell? ⟨blk, o + j * 4 + 1, none⟩ = some (.int .i64 y.src) ∧ W.cell? ⟨blk, o + j * 4 + 2, none⟩ = some (.int .i64 y.dst) ∧ W.cell? ⟨blk, o + j * 4 + 3, none⟩ = some (.string y.body) := by
              intro W hW
              obtain ⟨A', c', he, hA'⟩ := row_arow hW (onMs_len os k)
              injection he with he _ _
              subst he
              obtain ⟨blk, o, h1, _, h2, h3, h4, h5⟩ := msg_cells hA' j (by rw [onMs_len]; exact hj)
              rw [onMs_get, ← hye] at h2 h3 h4 h5
              rw [hyn] at h2
              exact ⟨blk, o, h1, h2, h3, h4, h5⟩
            rw [hyn] at q3
            clear ht1 ht2 hye hM2 hy1 hy2 hyn
            obtain ⟨yn, ys, yd, yb⟩ := y
            simp only at hcells q3
            have hjk1 : decide ((j : Int) + 1 < 1) = false := by rw [decide_eq_false_iff_not]; omega
            have hjk2 : decide (k < j + 1) = false := by rw [decide_eq_false_iff_not]; omega
            have hjk5 : decide ((k : Int) < (j : Int) + 1) = false := by rw [decide_eq_false_iff_not]; omega
            have hjk3 : (j : Int) < (k : Int) := by omega
            have hjk6 : j < k := by omega
            have hwj : IntKind.i64.wrap (j : Int) = (j : Int) := IntWalk.i64_in _ (by omega)
            have hj0 : (0 : Int) ≤ (j : Int) := by omega
            have hjk4 : (j : Int) + 1 < 61 := by omega
            go_upto_region 33 with (go_at_call 11; (refine q3.mono ?_); rintro e w6 ⟨rfl, h8, k8⟩; have hown6 := k8.own hown hown'; have hgs6 := k8.has (by simp) hgs)
            have h9 := (h8.keep (.cells #[.int .i64 ((j : Int) + 1), .int .i64 ys, .int .i64 yd, .string yb] 34)).drew
            have HM := (Has.new w6 34 [.int .i64 ((j : Int) + 1), .int .i64 ys, .int .i64 yd, .string yb]).drew
            have hown7 := hown6.alloc (.cells #[.int .i64 ((j : Int) + 1), .int .i64 ys, .int .i64 yd, .string yb] 34)
            have hgs7 := (hgs6.alloc (.cells #[.int .i64 ((j : Int) + 1), .int .i64 ys, .int .i64 yd, .string yb] 34)).drew
            obtain ⟨blk, o, hA4, s0, s1, s2, s3⟩ := hcells (w6.alloc (.cells #[.int .i64 ((j : Int) + 1), .int .i64 ys, .int .i64 yd, .string yb] 34)).drew hown7
            obtain ⟨m0, m1, m2, m3⟩ : _ ∧ _ ∧ _ ∧ _ := ⟨HM.cell 0, HM.cell 1, HM.cell 2, HM.cell 3⟩
            subst hA4
            obtain ⟨Wd, hWd⟩ : ∃ Wd, Hid (Wd = (w6.alloc (.cells #[.int .i64 ((j : Int) + 1), .int .i64 ys, .int .i64 yd, .string yb] 34)).drew) := ⟨_, rfl⟩
            rw [← hWd.out] at h9 HM hgs7 s0 s1 s2 s3 m0 m1 m2 m3
            have hrd : ∀ W, W = Wd →
                W.cell? ⟨w6.heap.size, 0, none⟩ = some (.int .i64 ((j : Int) + 1)) ∧ W.cell? ⟨w6.heap.size, 1, none⟩ = some (.int .i64 ys) ∧ W.cell? ⟨w6.heap.size, 2, none⟩ = some (.int .i64 yd) ∧ W.cell? ⟨w6.heap.size, 3, none⟩ = some (.string yb) ∧
                W.cell? ⟨blk, o + j * 4, none⟩ = some (.int .i64 ((j : Int) + 1)) ∧ W.cell? ⟨blk, o + j * 4 + 1, none⟩ = some (.int .i64 ys) ∧ W.cell? ⟨blk, o + j * 4 + 2, none⟩ = some (.int .i64 yd) ∧ W.cell? ⟨blk, o + j * 4 + 3, none⟩ = some (.string yb) := fun W hW => by
              rw [hW]
              exact ⟨m0, m1, m2, m3, s0, s1, s2, s3⟩
            refine wp_region_class (fun W => W = Wd) (by kernel_rfl) (by kernel_rfl) (by rw [hWd.out]) ?_
            repeat
              first
                | (refine wpQuiet_skip (by rfl) ?_; try simp only [Act.put, List.setIfInBounds_toArray, List.set_cons_zero, List.set_cons_succ])
                | (refine wpQuiet_take (by rfl) ?_
                   apply Exists.intro
                   refine ⟨fun W hW => ?_, ?_⟩
                   · first
                       | ((obtain ⟨t0, t1, t2, t3, t4, t5, t6, t7⟩ := hrd _ hW; go_simp; exact rfl); done)
                       | ((obtain ⟨t0, t1, t2, t3, t4, t5, t6, t7⟩ := hrd _ hW; go_simp); done)
                       | (go_simp; done)
                       | (go_simp; exact rfl)
                   try simp only [Act.put, List.setIfInBounds_toArray, List.set_cons_zero, List.set_cons_succ])
            refine wpQuiet_nil ?_
            intro wq hq
            subst hq
            obtain ⟨t0, t1, t2, t3, t4, t5, t6, t7⟩ := hrd _ rfl
            have gc : wq.cell? ⟨g2, j + 1, none⟩ = some (.int .i64 0) := by rw [hgs7.cell, List.getElem?_map, hgj]; rfl
            have gz := hgs7.frozen (j + 1)
            have hjt : ((j : Int) + 1).toNat = j + 1 := by omega
            have hjw : IntKind.i64.wrap ((j : Int) + 1) = (j : Int) + 1 := IntWalk.i64_in _ (by omega)
            have hj1 : (0 : Int) ≤ (j : Int) + 1 := by omega
            have hownq : wq.ownsRow w.heap.size 34 4 (Value.slice (some ⟨blk, o, none⟩) k cp) k ((onMs os k).flatMap Msg.cells) := by rw [hWd.out]; exact hown7
            have hqe := ownsRow_one hownq ((One.refl g2 wq).setCell (j + 1) (.int .i64 1)) hne
            have hAe := (h9.write (b := g2) (by simp) hlo2 ((One.refl g2 wq).setCell (j + 1) (.int .i64 1))).drop (fun q hq => List.mem_cons_of_mem _ hq)
            have hGe := hgs7.set (j + 1) (.int .i64 1)
            have hgse : (gv.map (Value.int .i64)).set (j + 1) (.int .i64 1) = (gv.set (j + 1) 1).map (Value.int .i64) := by rw [List.map_set]
            rw [hgse] at hGe
            clear hrd hcells q3
            go_wp2
            go_roundw
            case rel => exact ⟨t + 1, M2, gv.set (j + 1) 1, by omega, by go_num, hAe, by omega, hInv2, hGe, hqe⟩
            case measure => simp [intOf]; omega
end Go.Proofs.Ytjlpbhmhnniodaa
