/- The law: merging hangs on no order and no grouping. -/
import Derived.Test.YtaglginhaofgeaaClkLaw
namespace Go.Proofs.Ytaglginhaofgeaa
open Go.RowKit Go.Shelf
open Ck Pk
theorem mg_comm (x y : List Dot) : normL (x ++ y) = normL (y ++ x) := normL_ext fun a => by rw [getN_append, getN_append]; omega
theorem mg_assoc (x y z : List Dot) : normL (normL (x ++ y) ++ z) = normL (x ++ normL (y ++ z)) := normL_ext fun a => by rw [getN_append, normL_get, getN_append, getN_append, normL_get, getN_append]; omega
theorem mg_self (x : List Dot) : normL (x ++ x) = normL x := normL_ext fun a => by rw [getN_append]; omega
theorem mg_turn (x y z : List Dot) : normL (x ++ y ++ z) = normL (z ++ y ++ x) := normL_ext fun a => by simp only [getN_append]; omega
theorem mg_covers (x y z : List Dot) (d : Dot) : coversB (normL (x ++ y ++ z)) d = (coversB x d || coversB y d || coversB z d) := by
  unfold coversB
  rw [normL_get]
  simp only [getN_append]
  rw [Bool.eq_iff_iff]
  simp only [Bool.and_eq_true, Bool.or_eq_true, decide_eq_true_eq]
  omega
theorem mg_above (x y z : List Dot) : cmpC x (normL (x ++ y ++ z)) = -1 ∨ cmpC x (normL (x ++ y ++ z)) = 0 := by
  have h : withinR x (normL (x ++ y ++ z)) = true := by
    rw [withinR_iff]
    intro a
    rw [normL_get]
    simp only [getN_append]
    omega
  unfold cmpC
  rw [h]
  cases withinR (normL (x ++ y ++ z)) x <;> simp
structure MSt (w : World) (a b c : Value) (x y z : List Dot) (d : Dot) (W : World) : Prop where
  fr : Fr w.heap.size [] w W
  dot : Has W (w.heap.size + 1) 27 [.int .u64 (d.a : Int), .int .u64 (d.n : Int)]
  a : ClkIn W a x
  b : ClkIn W b y
  c : ClkIn W c z
theorem MSt.step {w : World} {a b c : Value} {x y z : List Dot} {d : Dot} {W W' : World} (h : MSt w a b c x y z d W) (f : Fr W.heap.size [] W W') : MSt w a b c x y z d W' :=
  ⟨h.fr.trans (f.mono h.fr.size (by simp)), h.dot.fr f h.dot.lt (by simp), clkIn_fr h.a f, clkIn_fr h.b f, clkIn_fr h.c f⟩
set_option maxHeartbeats 8000000 in
set_option maxRecDepth 100000 in
theorem merges_law (w : World) (a b c : Value) (x y z : List Dot) (d : Dot) (ha : ClkIn w a x) (hb : ClkIn w b y) (hc : ClkIn w c z) (hx : x.length ≤ 1048576) (hy : y.length ≤ 1048576) (hz : z.length ≤ 1048576) :
    Calls Try.prog 3 #[.agg #[a, b, c], .agg #[.int .u64 (d.a : Int), .int .u64 (d.n : Int)]] w fun e w' => e = .returned (.bool true) ∧ Fr w.heap.size [] w w' := by
  have e1 := Lib.hid (mg_comm x y)
  have e2 := Lib.hid (mg_assoc x y z)
  have e3 := Lib.hid (mg_self x)
  have e4 := Lib.hid (mg_turn x y z)
  obtain ⟨A1, c1, rfl, _⟩ := id ha
  obtain ⟨A2, c2, rfl, _⟩ := id hb
  obtain ⟨A3, c3, rfl, _⟩ := id hc
  have lxy := normL_len (x ++ y)
  have lyz := normL_len (y ++ z)
  have lxyz := normL_len (x ++ y ++ z)
  simp only [List.length_append] at lxy lyz lxyz
  have b1 : x.length + y.length ≤ 8796093022208 := by omega
  have b2 : y.length + x.length ≤ 8796093022208 := by omega
  have b3 : (normL (x ++ y)).length + z.length ≤ 8796093022208 := by omega
  have b4 : y.length + z.length ≤ 8796093022208 := by omega
  have b5 : x.length + (normL (y ++ z)).length ≤ 8796093022208 := by omega
  have b6 : x.length + x.length ≤ 8796093022208 := by omega
  have b7 : x.length ≤ 8796093022208 := by omega
  have b8 : x.length + y.length + z.length ≤ 8796093022208 := by omega
  have b9 : z.length + y.length + x.length ≤ 8796093022208 := by omega
  have b10 : y.length ≤ 8796093022208 := by omega
  have b11 : z.length ≤ 8796093022208 := by omega
  have b12 : (normL (x ++ y ++ z)).length ≤ 8796093022208 := by omega
  have b13 : (normL (x ++ y)).length ≤ 8796093022208 := by omega
  have b14 : (normL (normL (x ++ y) ++ z)).length ≤ 8796093022208 := by have := normL_len (normL (x ++ y) ++ z); rw [List.length_append] at this; omega
  have b15 : (normL (x ++ x)).length ≤ 8796093022208 := by have := normL_len (x ++ x); rw [List.length_append] at this; omega
  clear lxy lyz lxyz hx hy hz
  obtain ⟨W2, hW2⟩ : ∃ W2, (w.alloc (.cells #[.slice A1 x.length c1, .slice A2 y.length c2, .slice A3 z.length c3] 24)).alloc (.cells #[.int .u64 (d.a : Int), .int .u64 (d.n : Int)] 27) = W2 := ⟨_, rfl⟩
  have h0 : MSt w (.slice A1 x.length c1) (.slice A2 y.length c2) (.slice A3 z.length c3) x y z d W2 := by
    have hf : Fr w.heap.size [] w W2 := by rw [← hW2]; exact ((Fr.refl _ _ _).alloc (Nat.le_refl _) _).alloc (by simp) _
    exact ⟨hf, by rw [← hW2]; exact Has.new' _ _ _ (by simp), clkIn_fr ha hf, clkIn_fr hb hf, clkIn_fr hc hf⟩
  have hB : Has W2 w.heap.size 24 [.slice A1 x.length c1, .slice A2 y.length c2, .slice A3 z.length c3] := by rw [← hW2]; exact (Has.new w _ _).alloc _
  clear ha hb hc
  go_enter Try.func3, Try.ntmps3
  go_upto_region 1 with (fail)
  clear hW2
  go_upto_region 2 with (go_at_call 10; (refine (awake06_any W2).mono ?_); rintro e w1 ⟨rfl, f1⟩)
  have h1 := h0.step f1
  have hB1 := hB.fr f1 hB.lt (by simp)
  have p0 : w1.cell? ⟨w.heap.size, 0, none⟩ = some (.slice A1 x.length c1) := hB1.cell 0
  have p1 : w1.cell? ⟨w.heap.size, 1, none⟩ = some (.slice A2 y.length c2) := hB1.cell 1
  have p2 : w1.cell? ⟨w.heap.size, 2, none⟩ = some (.slice A3 z.length c3) := hB1.cell 2
  clear f1 h0 hB hB1
  go_upto_region 5 with (fail)
  clear p0 p1 p2
  go_upto_region 6 with (first
    | (go_at_call 11; (with_reducible refine (sameC_any w3 _ _ _ _ e1.out b13 (clkIn_fr (clkIn_own g2) f3) (clkIn_own g3)).mono ?_); rintro e w4 ⟨rfl, f4⟩; have h4 := h3.step f4)
    | (go_at_call 12; (with_reducible refine (merge2_is w2 _ _ y x b2 h2.b h2.a).mono ?_); rintro e w3 ⟨⟨v3, rfl, g3⟩, f3⟩; have h3 := h2.step f3)
    | (go_at_call 12; (with_reducible refine (merge2_is w1 _ _ x y b1 h1.a h1.b).mono ?_); rintro e w2 ⟨⟨v2, rfl, g2⟩, f2⟩; have h2 := h1.step f2))
  clear h1 h2 h3 f2 f3 f4 g2 g3
  go_upto_region 7 with (first
    | (go_at_call 11; (with_reducible refine (sameC_any w8 _ _ _ _ e2.out b14 (clkIn_fr (clkIn_fr (clkIn_own g6) f7) f8) (clkIn_own g8)).mono ?_); rintro e w9 ⟨rfl, f9⟩; have h9 := h8.step f9)
    | (go_at_call 12; (with_reducible refine (merge2_is w7 _ _ x (normL (y ++ z)) b5 h7.a (clkIn_own g7)).mono ?_); rintro e w8 ⟨⟨v8, rfl, g8⟩, f8⟩; have h8 := h7.step f8)
    | (go_at_call 12; (with_reducible refine (merge2_is w6 _ _ y z b4 h6.b h6.c).mono ?_); rintro e w7 ⟨⟨v7, rfl, g7⟩, f7⟩; obtain ⟨A7', c7', rfl⟩ := own_len1 g7; have h7 := h6.step f7)
    | (go_at_call 12; (with_reducible refine (merge2_is w5 _ _ (normL (x ++ y)) z b3 (clkIn_own g5) h5.c).mono ?_); rintro e w6 ⟨⟨v6, rfl, g6⟩, f6⟩; have h6 := h5.step f6)
    | (go_at_call 12; (with_reducible refine (merge2_is w4 _ _ x y b1 h4.a h4.b).mono ?_); rintro e w5 ⟨⟨v5, rfl, g5⟩, f5⟩; obtain ⟨A5', c5', rfl⟩ := own_len1 g5; have h5 := h4.step f5))
  clear h4 h5 h6 h7 h8 f5 f6 f7 f8 f9 g5 g6 g7 g8
  go_upto_region 8 with (first
    | (go_at_call 11; (with_reducible refine (sameC_any w11 _ _ _ _ e3.out b15 (clkIn_fr (clkIn_own g10) f11) (clkIn_own g11)).mono ?_); rintro e w12 ⟨rfl, f12⟩; have h12 := h11.step f12)
    | (go_at_call 13; (with_reducible refine (norm_is w10 _ x b7 h10.a).mono ?_); rintro e w11 ⟨⟨v11, rfl, g11⟩, f11⟩; have h11 := h10.step f11)
    | (go_at_call 12; (with_reducible refine (merge2_is w9 _ _ x x b6 h9.a h9.a).mono ?_); rintro e w10 ⟨⟨v10, rfl, g10⟩, f10⟩; have h10 := h9.step f10))
  clear h9 h10 h11 f10 f11 f12 g10 g11
  go_upto_region 10 with (first
    | (go_at_call 11; (with_reducible refine (sameC_any w14 _ _ _ _ e4.out b12 (clkIn_fr (clkIn_own g13) f14) (clkIn_own g14)).mono ?_); rintro e w15 ⟨rfl, f15⟩; have h15 := h14.step f15)
    | (go_at_call 12; (with_reducible refine (merge3_is w13 _ _ _ z y x b9 h13.c h13.b h13.a).mono ?_); rintro e w14 ⟨⟨v14, rfl, g14⟩, f14⟩; have h14 := h13.step f14)
    | (go_at_call 12; (with_reducible refine (merge3_is w12 _ _ _ x y z b8 h12.a h12.b h12.c).mono ?_); rintro e w13 ⟨⟨v13, rfl, g13⟩, f13⟩; have h13 := h12.step f13))
  have im := clkIn_fr (clkIn_fr (clkIn_own g13) f14) f15
  clear h12 h13 h14 f13 f14 f15 g13 g14
  have hmc := mg_covers x y z d
  have hma := mg_above x y z
  generalize normL (x ++ y ++ z) = M at *
  obtain ⟨X, hX, hX2⟩ : ∃ X : Int, cmpC x M = X ∧ (X = -1 ∨ X = 0) := ⟨_, rfl, hma⟩
  have EX := Lib.hid hX
  clear hX hma
  have q0 : w15.cell? ⟨w.heap.size + 1, 0, none⟩ = some (.int .u64 (d.a : Int)) := h15.dot.cell 0
  have q1 : w15.cell? ⟨w.heap.size + 1, 1, none⟩ = some (.int .u64 (d.n : Int)) := h15.dot.cell 1
  obtain ⟨cA, hA⟩ : ∃ cA, coversB x d = cA := ⟨_, rfl⟩
  obtain ⟨cB, hB⟩ : ∃ cB, coversB y d = cB := ⟨_, rfl⟩
  obtain ⟨cC, hC⟩ : ∃ cC, coversB z d = cC := ⟨_, rfl⟩
  rw [hA, hB, hC] at hmc
  have EA := Lib.hid hA
  have EB := Lib.hid hB
  have EC := Lib.hid hC
  have EM := Lib.hid hmc
  clear hA hB hC hmc
  cases cA with
  | true =>
    have EM' : Hid (coversB M d = true) := EM
    clear EM
    go_upto_region 11 with (go_at_call 14; (with_reducible refine (covers_is w15 _ x d _ EA.out b7 h15.a).mono ?_); rintro e w18 ⟨rfl, f18⟩; have h18 := h15.step f18)
    have im18 := clkIn_fr im f18
    rcases hX2 with rfl | rfl
    all_goals
      go_wp2_with (first
        | (go_at_call 14; (with_reducible refine (covers_is w19 _ M d _ EM'.out b12 (clkIn_fr im18 f19)).mono ?_); rintro e w20 ⟨rfl, f20⟩)
        | (go_at_call 15; (with_reducible refine (compare_is w18 _ _ x M _ EX.out b7 b12 h18.a im18).mono ?_); rintro e w19 ⟨rfl, f19⟩; have h19 := h18.step f19; have q0 : w19.cell? ⟨w.heap.size + 1, 0, none⟩ = some (.int .u64 (d.a : Int)) := h19.dot.cell 0; have q1 : w19.cell? ⟨w.heap.size + 1, 1, none⟩ = some (.int .u64 (d.n : Int)) := h19.dot.cell 1))
      go_ret
      exact ⟨rfl, (h19.step f20).fr⟩
  | false =>
    cases cB with
    | true =>
      have EM' : Hid (coversB M d = true) := EM
      clear EM
      go_upto_region 11 with (first
        | (go_at_call 14; (with_reducible refine (covers_is w16 _ y d _ EB.out b10 h16.b).mono ?_); rintro e w18 ⟨rfl, f18⟩; have h18 := h16.step f18)
        | (go_at_call 14; (with_reducible refine (covers_is w15 _ x d _ EA.out b7 h15.a).mono ?_); rintro e w16 ⟨rfl, f16⟩; have h16 := h15.step f16; have q0 : w16.cell? ⟨w.heap.size + 1, 0, none⟩ = some (.int .u64 (d.a : Int)) := h16.dot.cell 0; have q1 : w16.cell? ⟨w.heap.size + 1, 1, none⟩ = some (.int .u64 (d.n : Int)) := h16.dot.cell 1))
      have im18 := clkIn_fr (clkIn_fr im f16) f18
      rcases hX2 with rfl | rfl
      all_goals
        go_wp2_with (first
          | (go_at_call 14; (with_reducible refine (covers_is w19 _ M d _ EM'.out b12 (clkIn_fr im18 f19)).mono ?_); rintro e w20 ⟨rfl, f20⟩)
          | (go_at_call 15; (with_reducible refine (compare_is w18 _ _ x M _ EX.out b7 b12 h18.a im18).mono ?_); rintro e w19 ⟨rfl, f19⟩; have h19 := h18.step f19; have q0 : w19.cell? ⟨w.heap.size + 1, 0, none⟩ = some (.int .u64 (d.a : Int)) := h19.dot.cell 0; have q1 : w19.cell? ⟨w.heap.size + 1, 1, none⟩ = some (.int .u64 (d.n : Int)) := h19.dot.cell 1))
        go_ret
        exact ⟨rfl, (h19.step f20).fr⟩
    | false =>
      have EM' : Hid (coversB M d = cC) := EM
      clear EM
      cases cC with
      | true =>
        go_upto_region 11 with (first
          | (go_at_call 14; (with_reducible refine (covers_is w17 _ z d _ EC.out b11 h17.c).mono ?_); rintro e w18 ⟨rfl, f18⟩; have h18 := h17.step f18)
          | (go_at_call 14; (with_reducible refine (covers_is w16 _ y d _ EB.out b10 h16.b).mono ?_); rintro e w17 ⟨rfl, f17⟩; have h17 := h16.step f17; have q0 : w17.cell? ⟨w.heap.size + 1, 0, none⟩ = some (.int .u64 (d.a : Int)) := h17.dot.cell 0; have q1 : w17.cell? ⟨w.heap.size + 1, 1, none⟩ = some (.int .u64 (d.n : Int)) := h17.dot.cell 1)
          | (go_at_call 14; (with_reducible refine (covers_is w15 _ x d _ EA.out b7 h15.a).mono ?_); rintro e w16 ⟨rfl, f16⟩; have h16 := h15.step f16; have q0 : w16.cell? ⟨w.heap.size + 1, 0, none⟩ = some (.int .u64 (d.a : Int)) := h16.dot.cell 0; have q1 : w16.cell? ⟨w.heap.size + 1, 1, none⟩ = some (.int .u64 (d.n : Int)) := h16.dot.cell 1))
        have im18 := clkIn_fr (clkIn_fr (clkIn_fr im f16) f17) f18
        rcases hX2 with rfl | rfl
        all_goals
          go_wp2_with (first
            | (go_at_call 14; (with_reducible refine (covers_is w19 _ M d _ EM'.out b12 (clkIn_fr im18 f19)).mono ?_); rintro e w20 ⟨rfl, f20⟩)
            | (go_at_call 15; (with_reducible refine (compare_is w18 _ _ x M _ EX.out b7 b12 h18.a im18).mono ?_); rintro e w19 ⟨rfl, f19⟩; have h19 := h18.step f19; have q0 : w19.cell? ⟨w.heap.size + 1, 0, none⟩ = some (.int .u64 (d.a : Int)) := h19.dot.cell 0; have q1 : w19.cell? ⟨w.heap.size + 1, 1, none⟩ = some (.int .u64 (d.n : Int)) := h19.dot.cell 1))
          go_ret
          exact ⟨rfl, (h19.step f20).fr⟩
      | false =>
        go_upto_region 11 with (first
          | (go_at_call 14; (with_reducible refine (covers_is w17 _ z d _ EC.out b11 h17.c).mono ?_); rintro e w18 ⟨rfl, f18⟩; have h18 := h17.step f18)
          | (go_at_call 14; (with_reducible refine (covers_is w16 _ y d _ EB.out b10 h16.b).mono ?_); rintro e w17 ⟨rfl, f17⟩; have h17 := h16.step f17; have q0 : w17.cell? ⟨w.heap.size + 1, 0, none⟩ = some (.int .u64 (d.a : Int)) := h17.dot.cell 0; have q1 : w17.cell? ⟨w.heap.size + 1, 1, none⟩ = some (.int .u64 (d.n : Int)) := h17.dot.cell 1)
          | (go_at_call 14; (with_reducible refine (covers_is w15 _ x d _ EA.out b7 h15.a).mono ?_); rintro e w16 ⟨rfl, f16⟩; have h16 := h15.step f16; have q0 : w16.cell? ⟨w.heap.size + 1, 0, none⟩ = some (.int .u64 (d.a : Int)) := h16.dot.cell 0; have q1 : w16.cell? ⟨w.heap.size + 1, 1, none⟩ = some (.int .u64 (d.n : Int)) := h16.dot.cell 1))
        have im18 := clkIn_fr (clkIn_fr (clkIn_fr im f16) f17) f18
        rcases hX2 with rfl | rfl
        all_goals
          go_wp2_with (first
            | (go_at_call 14; (with_reducible refine (covers_is w19 _ M d _ EM'.out b12 (clkIn_fr im18 f19)).mono ?_); rintro e w20 ⟨rfl, f20⟩)
            | (go_at_call 15; (with_reducible refine (compare_is w18 _ _ x M _ EX.out b7 b12 h18.a im18).mono ?_); rintro e w19 ⟨rfl, f19⟩; have h19 := h18.step f19; have q0 : w19.cell? ⟨w.heap.size + 1, 0, none⟩ = some (.int .u64 (d.a : Int)) := h19.dot.cell 0; have q1 : w19.cell? ⟨w.heap.size + 1, 1, none⟩ = some (.int .u64 (d.n : Int)) := h19.dot.cell 1))
          go_ret
          exact ⟨rfl, (h19.step f20).fr⟩
end Go.Proofs.Ytaglginhaofgeaa
