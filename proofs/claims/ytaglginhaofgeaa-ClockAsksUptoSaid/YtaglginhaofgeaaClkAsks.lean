/- The law: clocks are put right, merged, added to, compared and asked. -/
import Derived.Test.YtaglginhaofgeaaClkRefNorm
import Derived.Test.YtaglginhaofgeaaClkOrder
import Derived.BigQuiet
namespace Go.Proofs.Ytaglginhaofgeaa
open Go.RowKit Go.Shelf
open Ck Pk
structure ASt (N : Nat) (w : World) (va vb vx vy : Value) (xs ys : List Dot) (d : Dot) (W : World) : Prop where
  le : N ≤ W.heap.size
  wle : w.heap.size < N
  fr : Fr w.heap.size [] w W
  dot : Has W w.heap.size 27 [.int .u64 (d.a : Int), .int .u64 (d.n : Int)]
  a : ClkAt N W va xs
  b : ClkAt N W vb ys
  x : ClkAt N W vx xs
  y : ClkAt N W vy ys
theorem clkAt_in {N : Nat} {W : World} {v : Value} {ds : List Dot} (h : ClkAt N W v ds) (hN : N ≤ W.heap.size) : ClkIn W v ds := by
  obtain ⟨A, c, h1, h2⟩ := h
  exact ⟨A, c, h1, h2.mono hN⟩
theorem clkAt_fr {N : Nat} {W W' : World} {v : Value} {ds : List Dot} (h : ClkAt N W v ds) (f : Fr N [] W W') : ClkAt N W' v ds := by
  obtain ⟨A, c, h1, h2⟩ := h
  exact ⟨A, c, h1, h2.fr f (Nat.le_refl _) (by simp)⟩
theorem clkAt_of {N : Nat} {W : World} {v : Value} {ds : List Dot} (h : ClkIn W v ds) (hN : W.heap.size ≤ N) : ClkAt N W v ds := by
  obtain ⟨A, c, h1, h2⟩ := h
  exact ⟨A, c, h1, h2.mono hN⟩
section
variable {N : Nat} {w : World} {va vb vx vy : Value} {xs ys : List Dot} {d : Dot} {W W' : World}
theorem ASt.stepN (h : ASt N w va vb vx vy xs ys d W) (f : Fr N [] W W') : ASt N w va vb vx vy xs ys d W' :=
  ⟨Nat.le_trans h.le f.size, h.wle, h.fr.trans (f.mono (Nat.le_of_lt h.wle) (by simp)), h.dot.fr f h.wle (by simp), clkAt_fr h.a f, clkAt_fr h.b f, clkAt_fr h.x f, clkAt_fr h.y f⟩
theorem ASt.step (h : ASt N w va vb vx vy xs ys d W) (f : Fr W.heap.size [] W W') : ASt N w va vb vx vy xs ys d W' := h.stepN (f.mono h.le (by simp))
theorem ASt.drew (h : ASt N w va vb vx vy xs ys d W) : ASt N w va vb vx vy xs ys d W.drew := ⟨h.le, h.wle, h.fr.drew, h.dot.drew, h.a, h.b, h.x, h.y⟩
theorem ASt.ia (h : ASt N w va vb vx vy xs ys d W) : ClkIn W va xs := clkAt_in h.a h.le
theorem ASt.ib (h : ASt N w va vb vx vy xs ys d W) : ClkIn W vb ys := clkAt_in h.b h.le
theorem ASt.ix (h : ASt N w va vb vx vy xs ys d W) : ClkIn W vx xs := clkAt_in h.x h.le
theorem ASt.iy (h : ASt N w va vb vx vy xs ys d W) : ClkIn W vy ys := clkAt_in h.y h.le
end
theorem own_step {w w' : World} {base e size n : Nat} {v : Value} {xs : List Value} (h : w.ownsRow base e size v n xs) (f : Fr w.heap.size [] w w') : w'.ownsRow base e size v n xs :=
  own_fr h (fun k hk => ⟨(h.lt k hk).2, by simp⟩) f
/-- A cell of a row of the call's own is written. -/
theorem own_set {w : World} {base n : Nat} {v : Value} {cs : List Value} (h : w.ownsRow base 27 2 v n cs) (k : Nat) (hk : k < n) (u : Value) :
    ∃ g cap, v = .slice (some ⟨g, 0, none⟩) n cap ∧ base ≤ g ∧ g < w.heap.size ∧ (∃ y, w.cell? ⟨g, k * 2 + 1, none⟩ = some y) ∧ w.frozen? ⟨g, k * 2 + 1, none⟩ = false ∧ (w.setCell ⟨g, k * 2 + 1, none⟩ u).ownsRow base 27 2 v n (cs.set (k * 2 + 1) u) := by
  rcases h.2 with ⟨_, h0⟩ | ⟨g, cap, cur, rfl, hb, hg, _⟩
  · omega
  · have hl := h.1
    have hj : k * 2 + 1 < n * 2 := by omega
    refine ⟨g, cap, rfl, hb, (h.lt g rfl).2, ?_, h.frozenAt _, (h.stored _ u).1⟩
    rw [h.cellAt _ hj, List.getElem?_eq_getElem (by omega)]
    exact ⟨_, rfl⟩
set_option maxHeartbeats 8000000 in
set_option maxRecDepth 100000 in
theorem asks_law (w : World) (va vb : Value) (xs ys : List Dot) (d : Dot) (ha : ClkIn w va xs) (hb : ClkIn w vb ys) (hx : xs.length ≤ 1048576) (hy : ys.length ≤ 1048576) (okx : ∀ d ∈ xs, d.ok) :
    Calls Try.prog 7 #[va, vb, .agg #[.int .u64 (d.a : Int), .int .u64 (d.n : Int)]] w fun e w' => e = .returned (.bool true) ∧ Fr w.heap.size [] w w' := by
  obtain ⟨i0, hi, hz0, hz1, hz2⟩ := info_parts infoDot
  have hgb : getN xs d.a < 18446744073709551616 := by
    rcases getN_ex xs d.a with h0 | ⟨x, hd, _, h2⟩
    · omega
    · have := (okx x hd).2; omega
  obtain ⟨A1, c1, rfl, _⟩ := id ha
  obtain ⟨A2, c2, rfl, _⟩ := id hb
  have b1 : xs.length ≤ 8796093022208 := by omega
  have b2 : ys.length ≤ 8796093022208 := by omega
  have b3 : xs.length + ys.length ≤ 8796093022208 := by omega
  have b4 : xs.length + 1 ≤ 8796093022208 := by omega
  have b5 : xs.length + ys.length ≤ 100000000 := by omega
  have b6 : xs.length + [d].length ≤ 100000000 := by simp; omega
  have b7 : (normL xs).length ≤ 8796093022208 := by have := normL_len xs; omega
  have b8 : (normL (xs ++ ys)).length ≤ 8796093022208 := by have := normL_len (xs ++ ys); rw [List.length_append] at this; omega
  have b9 : (normL (xs ++ [d])).length ≤ 8796093022208 := by have := normL_len (xs ++ [d]); rw [List.length_append, List.length_singleton] at this; omega
  obtain ⟨W1, hW1⟩ : ∃ W1, w.alloc (.cells #[.int .u64 (d.a : Int), .int .u64 (d.n : Int)] 27) = W1 := ⟨_, rfl⟩
  have hD : Has W1 w.heap.size 27 [.int .u64 (d.a : Int), .int .u64 (d.n : Int)] := by rw [← hW1]; exact Has.new w _ _
  have hF1 : Fr w.heap.size [] w W1 := by rw [← hW1]; exact (Fr.refl _ _ _).alloc (Nat.le_refl _) _
  go_enter Try.func7, Try.ntmps7
  go_upto_region 1 with (fail)
  clear hW1
  go_upto_region 2 with (go_at_call 10; (refine (awake06_any W1).mono ?_); rintro e w1 ⟨rfl, f1⟩)
  have hF2 := hF1.trans (f1.mono hF1.size (by simp))
  have hD2 := hD.fr f1 hD.lt (by simp)
  obtain ⟨A1', c1', he1, r1⟩ := clkIn_fr ha hF2
  obtain ⟨rfl, rfl⟩ : A1 = A1' ∧ c1 = c1' := by injection he1 with p q r; exact ⟨p, r⟩
  obtain ⟨A2', c2', he2, r2⟩ := clkIn_fr hb hF2
  obtain ⟨rfl, rfl⟩ : A2 = A2' ∧ c2 = c2' := by injection he2 with p q r; exact ⟨p, r⟩
  clear he1 he2 f1 hF1 hD
  have hz1' := hD2.lt
  go_upto_region 6 with (first
    | (at_builtin; refine wpList_append_row (by rfl) (.tmp 24) (.tmp 25) 23 (by rfl) w1.heap.size 27 i0 (.agg #[.int .u64 0, .int .u64 0]) 2 16 Try.underlying23 hi hz0 hz1 hz2 rfl (by decide) (.slice none 0 0) 0 [] (by rfl) (World.ownsRow_nil _ _ _ _) w1.heap.size A2 ys.length c2 (ys.flatMap Dot.cells) (by rfl) (r2.fr q2 (Nat.le_refl _) (by simp)) (flatD_len _) (onesD _) (by unfold maxLen; omega) (by omega) q2.size ?_; intro v3 w3 h3 g3 o3; have q3 : Fr w2.heap.size [] w2 w3 := (Fr.refl _ _ _).grown g3 (Nat.le_refl _) (by simp [Value.ownBlock]))
    | (at_builtin; refine wpList_append_row (by rfl) (.tmp 21) (.tmp 22) 23 (by rfl) w1.heap.size 27 i0 (.agg #[.int .u64 0, .int .u64 0]) 2 16 Try.underlying23 hi hz0 hz1 hz2 rfl (by decide) (.slice none 0 0) 0 [] (by rfl) (World.ownsRow_nil _ _ _ _) w1.heap.size A1 xs.length c1 (xs.flatMap Dot.cells) (by rfl) r1 (flatD_len _) (onesD _) (by unfold maxLen; omega) (by omega) (Nat.le_refl _) ?_; intro v2 w2 h2 g2 o2; have q2 : Fr w1.heap.size [] w1 w2 := (Fr.refl _ _ _).grown g2 (Nat.le_refl _) (by simp [Value.ownBlock])))
  have kx : ClkIn w2 v2 xs := clkIn_own (base := w1.heap.size) (by rw [Nat.zero_add, List.nil_append] at h2; exact h2)
  have ky : ClkIn w3 v3 ys := clkIn_own (base := w1.heap.size) (by rw [Nat.zero_add, List.nil_append] at h3; exact h3)
  have hF3 := hF2.trans ((q2.mono hF2.size (by simp)).trans (q3.mono (Nat.le_trans hF2.size q2.size) (by simp)))
  have hs3 : w.heap.size < w3.heap.size := Nat.lt_of_lt_of_le hz1' (Nat.le_trans q2.size q3.size)
  have st3 : ASt w3.heap.size w (.slice A1 xs.length c1) (.slice A2 ys.length c2) v2 v3 xs ys d w3 :=
    ⟨Nat.le_refl _, hs3, hF3, (hD2.fr q2 hz1' (by simp)).fr q3 (Nat.lt_of_lt_of_le hz1' q2.size) (by simp), clkIn_fr ha hF3, clkIn_fr hb hF3, clkIn_fr kx q3, ky⟩
  obtain ⟨A3, c3, rfl, _⟩ := id kx
  obtain ⟨A4, c4, rfl, _⟩ := id ky
  clear h2 h3 g2 g3 o2 o3 q2 q3 kx ky hF3 hF2 hD2 r1 r2 ha hb
  obtain ⟨N, hN⟩ : ∃ N, w3.heap.size = N := ⟨_, rfl⟩
  rw [hN] at st3
  have HN := Lib.hid hN
  clear hN
  go_upto_region 8 with (first
    | (go_at_call 12; (with_reducible refine (merge2_is w4 _ _ xs ys b3 st4.ix st4.iy).mono ?_); rintro e w5 ⟨⟨v5, rfl, g5⟩, f5⟩; have st5 := st4.step f5)
    | (go_at_call 13; (with_reducible refine (norm_is w3 _ xs b1 st3.ix).mono ?_); rintro e w4 ⟨⟨v4, rfl, g4⟩, f4⟩; have st4 := st3.step f4))
  have p0 : w5.cell? ⟨w.heap.size, 0, none⟩ = some (.int .u64 (d.a : Int)) := st5.dot.cell 0
  have p1 : w5.cell? ⟨w.heap.size, 1, none⟩ = some (.int .u64 (d.n : Int)) := st5.dot.cell 1
  have n5 := own_step g4 f5
  have hnb : ∀ k, v4.ownBlock = some k → k < w5.heap.size := fun k hk => (n5.lt k hk).2
  have l54 := f5.size
  have l43 := f4.size
  go_upto_region 9 with (go_at_call 23; (with_reducible refine (add1_is w5 _ xs d b4 st5.ix).mono ?_); rintro e w6 ⟨⟨v6, rfl, g6⟩, f6⟩; have st6 := st5.step f6)
  have n6 := own_step n5 f6
  have m6 := own_step g5 f6
  clear g4 g5 n5 f4 f5 p0 p1
  go_upto_region 10 with (first
    | (go_at_call 11; (with_reducible refine (sameC_any w7 _ _ _ _ rfl b7 (clkIn_own (own_step n6 f7)) (clkIn_own g7)).mono ?_); rintro e w8 ⟨rfl, f8⟩; have st8 := st7.step f8)
    | (go_at_call 25; (with_reducible refine (rNorm_any w6 _ xs (by omega) st6.ia).mono ?_); rintro e w7 ⟨⟨v7, rfl, g7⟩, f7⟩; have st7 := st6.step f7))
  have n8 := own_step (own_step n6 f7) f8
  have m8 := own_step (own_step m6 f7) f8
  have l8 := own_step (own_step g6 f7) f8
  clear n6 m6 g6 g7 f7 f8 f6 st6 st7
  go_upto_region 11 with (first
    | (go_at_call 11; (with_reducible refine (sameC_any w9 _ _ _ _ rfl b8 (clkIn_own (own_step m8 f9)) (clkIn_own g9)).mono ?_); rintro e w10 ⟨rfl, f10⟩; have st10 := st9.step f10)
    | (go_at_call 26; (with_reducible refine (rTwo_any w8 _ _ xs ys b5 st8.ia st8.ib).mono ?_); rintro e w9 ⟨⟨v9, rfl, g9⟩, f9⟩; have st9 := st8.step f9))
  have n10 := own_step (own_step n8 f9) f10
  have l10 := own_step (own_step l8 f9) f10
  clear n8 m8 l8 g9 f9 f10 st8 st9
  have p0 : w10.cell? ⟨w.heap.size, 0, none⟩ = some (.int .u64 (d.a : Int)) := st10.dot.cell 0
  have p1 : w10.cell? ⟨w.heap.size, 1, none⟩ = some (.int .u64 (d.n : Int)) := st10.dot.cell 1
  have stA := st10.step ((Fr.refl _ _ _).alloc (Nat.le_refl _) (.cells #[.int .u64 (d.a : Int), .int .u64 (d.n : Int)] 27))
  have dA : ClkIn (w10.alloc (.cells #[.int .u64 (d.a : Int), .int .u64 (d.n : Int)] 27)) (.slice (some ⟨w10.heap.size, 0, none⟩) 1 1) [d] := clkIn_new w10 [d] 1 1 rfl
  have lA := own_step l10 ((Fr.refl _ _ _).alloc (Nat.le_refl _) (.cells #[.int .u64 (d.a : Int), .int .u64 (d.n : Int)] 27))
  have nA := own_step n10 ((Fr.refl _ _ _).alloc (Nat.le_refl _) (.cells #[.int .u64 (d.a : Int), .int .u64 (d.n : Int)] 27))
  go_upto_region 12 with (first
    | (go_at_call 11; (with_reducible refine (sameC_any w11 _ _ _ _ rfl b9 (clkIn_own (own_step lA f11)) (clkIn_own g11)).mono ?_); rintro e w12 ⟨rfl, f12⟩; have st12 := st11.step f12)
    | (go_at_call 26; (with_reducible refine (rTwo_any _ _ _ xs [d] b6 stA.ia dA).mono ?_); rintro e w11 ⟨⟨v11, rfl, g11⟩, f11⟩; have st11 := stA.step f11))
  have n12 := own_step (own_step nA f11) f12
  have l12 := own_step (own_step lA f11) f12
  clear n10 l10 lA nA stA dA g11 f11 f12 st10 st11 st5 st3 p0 p1
  obtain ⟨B4, e4, rfl⟩ := own_len1 n12
  obtain ⟨B6, e6, rfl⟩ := own_len1 l12
  have lb4 : (normL xs).length ≤ 8796093022208 := b7
  have lb6 : (normL (xs ++ [d])).length ≤ 8796093022208 := b9
  generalize (normL xs).length = ln at *
  generalize (normL (xs ++ [d])).length = ll at *
  have h53 : w3.heap.size ≤ w5.heap.size := Nat.le_trans l43 l54
  go_wp2
  go_loopw [16] (fun i wr => ∃ k : Nat, k ≤ ln ∧ i = .int .i64 (k : Int) ∧ (∃ cs, wr.ownsRow w3.heap.size 27 2 (.slice B4 ln e4) ln cs) ∧ (∃ cl, wr.ownsRow w5.heap.size 27 2 (.slice B6 ll e6) ll cl) ∧ ASt N w (.slice A1 xs.length c1) (.slice A2 ys.length c2) (.slice A3 xs.length c3) (.slice A4 ys.length c4) xs ys d wr) (fun i _ => ln - (intOf i).toNat)
  case atStart => exact ⟨0, Nat.zero_le _, rfl, ⟨_, n12⟩, ⟨_, l12⟩, st12⟩
  case round =>
    clear n12 l12 st12
    obtain ⟨k, hk, rfl, ⟨cs, hn⟩, ⟨cl, hl⟩, st⟩ := hrel
    by_cases hlt : k < ln
    · obtain ⟨g, cap, hv, hg0, hg1, ⟨y, hy0⟩, hy1, hset⟩ := own_set hn k hlt (.int .u64 99)
      injection hv with hv1 _ hv2
      subst hv1 hv2
      have hgb2 := hnb g rfl
      have hNg : N ≤ g := by rw [← HN.out]; exact hg0
      have hl2 := own_one hl ((One.refl g wr).setCell (k * 2 + 1) (.int .u64 99)) (fun e => by have := (hl.lt g e.symm).1; omega)
      have st2 := st.stepN (((Fr.refl N [] wr).setCell (p := ⟨g, k * 2 + 1, none⟩) (.inr hNg) (.int .u64 99)))
      clear st hl hn
      go_wp2
      go_roundw
      case rel => exact ⟨k + 1, by omega, by go_num, ⟨_, hset⟩, ⟨_, hl2⟩, st2⟩
      case measure => simp [intOf]; omega
    · have hge : ¬ ((k : Int) < ln) := by omega
      go_wp2
      clear hn hnb
      obtain ⟨wo, rfl⟩ : ∃ wo : World, wo = wr := ⟨_, rfl⟩
      go_loopw [17] (fun i wr => ∃ k : Nat, k ≤ ll ∧ i = .int .i64 (k : Int) ∧ (∃ cl, wr.ownsRow w5.heap.size 27 2 (.slice B6 ll e6) ll cl) ∧ ASt N w (.slice A1 xs.length c1) (.slice A2 ys.length c2) (.slice A3 xs.length c3) (.slice A4 ys.length c4) xs ys d wr) (fun i _ => ll - (intOf i).toNat)
      case atStart => exact ⟨0, Nat.zero_le _, rfl, ⟨_, hl⟩, st⟩
      case round =>
        clear hl st
        obtain ⟨k2, hk2, rfl, ⟨cl, hl⟩, st⟩ := hrel
        by_cases hlt2 : k2 < ll
        · obtain ⟨g, cap, hv, hg0, hg1, ⟨y, hy0⟩, hy1, hset⟩ := own_set hl k2 hlt2 (.int .u64 99)
          injection hv with hv1 _ hv2
          subst hv1 hv2
          have hNg : N ≤ g := by rw [← HN.out]; omega
          have st2 := st.stepN (((Fr.refl N [] wr).setCell (p := ⟨g, k2 * 2 + 1, none⟩) (.inr hNg) (.int .u64 99)))
          clear st hl
          go_wp2
          go_roundw
          case rel => exact ⟨k2 + 1, by omega, by go_num, ⟨_, hset⟩, st2⟩
          case measure => simp [intOf]; omega
        · have hge2 : ¬ ((k2 : Int) < ll) := by omega
          clear hl
          go_upto_region 24 with (first
            | (go_at_call 11; (with_reducible refine (sameC_any w13 _ _ ys ys rfl b2 s13.iy s13.ib).mono ?_); rintro e w14 ⟨rfl, f14⟩; have s14 := s13.step f14)
            | (go_at_call 11; (with_reducible refine (sameC_any wr _ _ xs xs rfl b1 st.ix st.ia).mono ?_); rintro e w13 ⟨rfl, f13⟩; have s13 := st.step f13))
          clear st s13 f13 f14
          have hrd : ∀ W, (ASt N w (.slice A1 xs.length c1) (.slice A2 ys.length c2) (.slice A3 xs.length c3) (.slice A4 ys.length c4) xs ys d W) → W.cell? ⟨w.heap.size, 0, none⟩ = some (.int .u64 (d.a : Int)) ∧ W.cell? ⟨w.heap.size, 1, none⟩ = some (.int .u64 (d.n : Int)) := fun W h => ⟨h.dot.cell 0, h.dot.cell 1⟩
          obtain ⟨G, hG⟩ : ∃ G, getN xs d.a = G := ⟨_, rfl⟩
          obtain ⟨CV, hCV⟩ : ∃ CV, coversB xs d = CV := ⟨_, rfl⟩
          obtain ⟨CM, hCM⟩ : ∃ CM, cmpC xs ys = CM := ⟨_, rfl⟩
          obtain ⟨SM, hSM⟩ : ∃ SM, (withinR xs ys && withinR ys xs) = SM := ⟨_, rfl⟩
          obtain ⟨NX, hNX⟩ : ∃ NX, nextN xs d.a = NX := ⟨_, rfl⟩
          have k1 := fun W (h : (ASt N w (.slice A1 xs.length c1) (.slice A2 ys.length c2) (.slice A3 xs.length c3) (.slice A4 ys.length c4) xs ys d W)) => get_any W _ xs d.a b1 h.ia
          have k2' := fun W (h : (ASt N w (.slice A1 xs.length c1) (.slice A2 ys.length c2) (.slice A3 xs.length c3) (.slice A4 ys.length c4) xs ys d W)) => rGet_any W _ xs d.a b1 h.ia
          have k3 := fun W (h : (ASt N w (.slice A1 xs.length c1) (.slice A2 ys.length c2) (.slice A3 xs.length c3) (.slice A4 ys.length c4) xs ys d W)) => covers_any W _ xs d b1 h.ia
          have k4 := fun W (h : (ASt N w (.slice A1 xs.length c1) (.slice A2 ys.length c2) (.slice A3 xs.length c3) (.slice A4 ys.length c4) xs ys d W)) => rCovers_any W _ xs d b1 h.ia
          have k5 := fun W (h : (ASt N w (.slice A1 xs.length c1) (.slice A2 ys.length c2) (.slice A3 xs.length c3) (.slice A4 ys.length c4) xs ys d W)) => compare_any W _ _ xs ys b1 b2 h.ia h.ib
          have k6 := fun W (h : (ASt N w (.slice A1 xs.length c1) (.slice A2 ys.length c2) (.slice A3 xs.length c3) (.slice A4 ys.length c4) xs ys d W)) => rCompare_any W _ _ xs ys _ hCM b1 b2 h.ia h.ib
          have k7 := fun W (h : (ASt N w (.slice A1 xs.length c1) (.slice A2 ys.length c2) (.slice A3 xs.length c3) (.slice A4 ys.length c4) xs ys d W)) => same_any W _ _ xs ys b1 b2 h.ia h.ib
          have k8 := fun W (h : (ASt N w (.slice A1 xs.length c1) (.slice A2 ys.length c2) (.slice A3 xs.length c3) (.slice A4 ys.length c4) xs ys d W)) => rSame_any W _ _ xs ys b1 b2 h.ia h.ib
          have k9 := fun W (h : (ASt N w (.slice A1 xs.length c1) (.slice A2 ys.length c2) (.slice A3 xs.length c3) (.slice A4 ys.length c4) xs ys d W)) => next_any W _ xs d.a b1 h.ia hgb
          have k10 := fun W (h : (ASt N w (.slice A1 xs.length c1) (.slice A2 ys.length c2) (.slice A3 xs.length c3) (.slice A4 ys.length c4) xs ys d W)) => rNext_any W _ xs d.a b1 h.ia hgb
          simp only [hG, hCV, hCM, hSM, hNX] at k1 k2' k3 k4 k5 k7 k8 k9 k10
          refine wp_region_class (fun W => (ASt N w (.slice A1 xs.length c1) (.slice A2 ys.length c2) (.slice A3 xs.length c3) (.slice A4 ys.length c4) xs ys d W)) (by kernel_rfl) (by kernel_rfl) (s14.drew) ?_
          repeat
            first
              | (refine wpQuiet_skip (by rfl) ?_; try simp only [Act.put, List.setIfInBounds_toArray, List.set_cons_zero, List.set_cons_succ])
              | (refine wpQuiet_take (by rfl) ?_
                 apply Exists.intro
                 refine ⟨fun W hW => ?_, ?_⟩
                 · first
                     | ((obtain ⟨q0, q1⟩ := hrd _ hW; go_simp; exact rfl); done)
                     | ((obtain ⟨q0, q1⟩ := hrd _ hW; go_simp); done)
                     | (go_simp; done)
                     | (go_simp; exact rfl)
                     | (go_simp; (try refine ⟨rfl, ?_⟩); (go_at_call 24; exact (k1 _ hW).mono fun e w' ⟨he, hf⟩ => ⟨he, hW.step hf⟩); done)
                     | (go_simp; (try refine ⟨rfl, ?_⟩); (go_at_call 27; exact (k2' _ hW).mono fun e w' ⟨he, hf⟩ => ⟨he, hf ▸ hW⟩); done)
                     | (go_simp; (try refine ⟨rfl, ?_⟩); (go_at_call 14; exact (k3 _ hW).mono fun e w' ⟨he, hf⟩ => ⟨he, hW.step hf⟩); done)
                     | (go_simp; (try refine ⟨rfl, ?_⟩); (go_at_call 28; exact (k4 _ hW).mono fun e w' ⟨he, hf⟩ => ⟨he, hW.step hf⟩); done)
                     | (go_simp; (try refine ⟨rfl, ?_⟩); (go_at_call 15; exact (k5 _ hW).mono fun e w' ⟨he, hf⟩ => ⟨he, hW.step hf⟩); done)
                     | (go_simp; (try refine ⟨rfl, ?_⟩); (go_at_call 29; exact (k6 _ hW).mono fun e w' ⟨he, hf⟩ => ⟨he, hW.step hf⟩); done)
                     | (go_simp; (try refine ⟨rfl, ?_⟩); (go_at_call 30; exact (k7 _ hW).mono fun e w' ⟨he, hf⟩ => ⟨he, hW.step hf⟩); done)
                     | (go_simp; (try refine ⟨rfl, ?_⟩); (go_at_call 31; exact (k8 _ hW).mono fun e w' ⟨he, hf⟩ => ⟨he, hW.step hf⟩); done)
                     | (go_simp; (try refine ⟨rfl, ?_⟩); (go_at_call 22; exact (k9 _ hW).mono fun e w' ⟨he, hf⟩ => ⟨he, hW.step hf⟩); done)
                     | (go_simp; (try refine ⟨rfl, ?_⟩); (go_at_call 32; exact (k10 _ hW).mono fun e w' ⟨he, hf⟩ => ⟨he, hW.step hf⟩); done)
                 try simp only [Act.put, List.setIfInBounds_toArray, List.set_cons_zero, List.set_cons_succ])
          refine wpQuiet_nil ?_
          intro wq hq
          go_wp2
          go_ret
          exact ⟨rfl, hq.fr⟩
end Go.Proofs.Ytaglginhaofgeaa
