/- The law: comparing is an order. -/
import Derived.Test.YtaglginhaofgeaaClkLaw
import Derived.Deep.RegionHeld3
namespace Go.Proofs.Ytaglginhaofgeaa
open Go.RowKit Go.Shelf
open Ck Pk
theorem cmp_cases (xs ys zs : List Dot) :
    ((cmpC xs ys = 2 ∧ cmpC ys xs = 2) ∨ (cmpC xs ys = 1 ∧ cmpC ys xs = -1) ∨ (cmpC xs ys = -1 ∧ cmpC ys xs = 1 ∧ cmpC ys zs = 2) ∨ (cmpC xs ys = -1 ∧ cmpC ys xs = 1 ∧ cmpC ys zs = 1) ∨ (cmpC xs ys = 0 ∧ cmpC ys xs = 0 ∧ cmpC ys zs = 2) ∨ (cmpC xs ys = 0 ∧ cmpC ys xs = 0 ∧ cmpC ys zs = 1)) ∨
    ((cmpC xs ys = -1 ∧ cmpC ys xs = 1 ∧ cmpC ys zs = -1 ∧ cmpC xs zs = -1) ∨ (cmpC xs ys = -1 ∧ cmpC ys xs = 1 ∧ cmpC ys zs = 0 ∧ cmpC xs zs = -1) ∨ (cmpC xs ys = 0 ∧ cmpC ys xs = 0 ∧ cmpC ys zs = -1 ∧ cmpC xs zs = -1) ∨ (cmpC xs ys = 0 ∧ cmpC ys xs = 0 ∧ cmpC ys zs = 0 ∧ cmpC xs zs = 0)) := by
  have tr : ∀ A B C : List Dot, withinR A B = true → withinR B C = true → withinR A C = true := fun A B C h1 h2 => by
    rw [withinR_iff] at h1 h2 ⊢
    exact fun a => Nat.le_trans (h1 a) (h2 a)
  have t1 := tr xs ys zs
  have t2 := tr zs ys xs
  have t3 := tr zs xs ys
  have t4 := tr ys zs xs
  unfold cmpC
  generalize withinR xs ys = P at *
  generalize withinR ys xs = Q at *
  generalize withinR ys zs = R at *
  generalize withinR zs ys = S at *
  generalize withinR xs zs = T at *
  generalize withinR zs xs = U at *
  clear tr
  cases P <;> cases Q <;> cases R <;> cases S <;> cases T <;> cases U <;> simp at t1 t2 t3 t4 ⊢
theorem add_above (xs : List Dot) (ac : Nat) (h : getN xs ac < 18446744073709551615) : cmpC xs (normL (xs ++ [nextN xs ac])) = -1 := by
  have hn : (nextN xs ac).n = getN xs ac + 1 := by unfold nextN; rw [if_pos h]
  have ha : (nextN xs ac).a = ac := rfl
  have h1 : withinR xs (normL (xs ++ [nextN xs ac])) = true := by
    rw [withinR_iff]
    intro a
    rw [normL_get, getN_append]
    omega
  have h2 : withinR (normL (xs ++ [nextN xs ac])) xs = false := by
    rw [← Bool.not_eq_true, withinR_iff]
    intro h3
    have := h3 ac
    rw [normL_get, getN_append, getN_cons, ha, if_pos rfl, hn, getN_nil] at this
    omega
  unfold cmpC
  rw [h1, h2]
  rfl
theorem covers_next (xs : List Dot) (ac : Nat) (h : getN xs ac < 18446744073709551615) : coversB xs (nextN xs ac) = false := by
  have hn : nextN xs ac = ⟨ac, getN xs ac + 1⟩ := by unfold nextN; rw [if_pos h]
  rw [hn]
  unfold coversB
  simp
theorem covers_last (xs : List Dot) (ac : Nat) (h : getN xs ac = 18446744073709551615) : coversB xs (nextN xs ac) = true := by
  have hn : nextN xs ac = ⟨ac, getN xs ac⟩ := by unfold nextN; rw [if_neg (by omega)]
  rw [hn]
  unfold coversB
  simp
  omega
theorem add1_at (V : World) (u : Value) (xs : List Dot) (d : Dot) (b : Nat) (hx : xs.length + 1 ≤ 8796093022208) (hb : Has V b 27 [.int .u64 (d.a : Int), .int .u64 (d.n : Int)]) (hu : ClkIn V u xs) :
    Calls Try.prog 23 #[u, .slice (some ⟨b, 0, none⟩) 1 1] V fun e w' => Made V e w' (normL (xs ++ [d])) := by
  have hd : ClkIn V (.slice (some ⟨b, 0, none⟩) 1 1) [d] :=
    ⟨_, _, rfl, .inr ⟨b, 0, rfl, hb.lt, fun j u hu => by rw [Nat.zero_add]; exact (hb.cell j).trans hu⟩⟩
  refine (add_any _ _ _ xs [d] (by simpa using hx) hu hd).mono fun e w' ⟨⟨v', out, h1, h2, h3, _⟩, h5⟩ => ?_
  rw [h3.eq] at h2
  exact ⟨⟨v', h1, h2⟩, h5⟩
set_option maxHeartbeats 8000000 in
set_option maxRecDepth 100000 in
theorem order_a (w : World) (a b c : Value) (xs ys zs : List Dot) (ac : Nat) (ha : ClkIn w a xs) (hb : ClkIn w b ys) (hc : ClkIn w c zs) (hx : xs.length ≤ 8796093022000) (hy : ys.length ≤ 8796093022000) (hz : zs.length ≤ 8796093022000) (okx : ∀ d ∈ xs, d.ok)
    (hcs : (cmpC xs ys = 2 ∧ cmpC ys xs = 2) ∨ (cmpC xs ys = 1 ∧ cmpC ys xs = -1) ∨ (cmpC xs ys = -1 ∧ cmpC ys xs = 1 ∧ cmpC ys zs = 2) ∨ (cmpC xs ys = -1 ∧ cmpC ys xs = 1 ∧ cmpC ys zs = 1) ∨ (cmpC xs ys = 0 ∧ cmpC ys xs = 0 ∧ cmpC ys zs = 2) ∨ (cmpC xs ys = 0 ∧ cmpC ys xs = 0 ∧ cmpC ys zs = 1)) :
    Calls Try.prog 5 #[.agg #[a, b, c], .int .u64 (ac : Int)] w fun e w' => e = .returned (.bool true) ∧ Fr w.heap.size [] w w' := by
  have hg : getN xs ac < 18446744073709551616 := by
    rcases getN_ex xs ac with h0 | ⟨d, hd, _, h2⟩
    · omega
    · have := (okx d hd).2; omega
  have hnext := fun W (h : ClkIn W a xs) => next_any W a xs ac (by omega) h hg
  have hadd := fun W b (hb : Has W b 27 [.int .u64 ((nextN xs ac).a : Int), .int .u64 ((nextN xs ac).n : Int)]) (h : ClkIn W a xs) => add1_at W a xs (nextN xs ac) b (by omega) hb h
  have hab := add_above xs ac
  have hcv1 := covers_next xs ac
  have hcv2 := covers_last xs ac
  have hnl := normL_len (xs ++ [nextN xs ac])
  rw [List.length_append, List.length_singleton] at hnl
  have hna : (nextN xs ac).a = ac := rfl
  have hnn : (nextN xs ac).n = if getN xs ac < 18446744073709551615 then getN xs ac + 1 else getN xs ac := rfl
  obtain ⟨A1, c1, rfl, _⟩ := id ha
  obtain ⟨A2, c2, rfl, _⟩ := id hb
  obtain ⟨A3, c3, rfl, _⟩ := id hc
  obtain ⟨W2, hW2⟩ : ∃ W2, w.alloc (.cells #[.slice A1 xs.length c1, .slice A2 ys.length c2, .slice A3 zs.length c3] 24) = W2 := ⟨_, rfl⟩
  have hB : Has W2 w.heap.size 24 [.slice A1 xs.length c1, .slice A2 ys.length c2, .slice A3 zs.length c3] := by rw [← hW2]; exact Has.new w _ _
  have hF2 : Fr w.heap.size [] w W2 := by rw [← hW2]; exact (Fr.refl _ _ _).alloc (Nat.le_refl _) _
  have HNN := Lib.hid hnn
  have HNA := Lib.hid hna
  clear hnn hna
  rcases hcs with ⟨e1, e2⟩ | ⟨e1, e2⟩ | ⟨e1, e2, e3⟩ | ⟨e1, e2, e3⟩ | ⟨e1, e2, e3⟩ | ⟨e1, e2, e3⟩
  all_goals
    go_enter Try.func5, Try.ntmps5
    go_upto_region 1 with (fail)
    clear hW2
    go_upto_region 2 with (go_at_call 10; (refine (awake06_any W2).mono ?_); rintro e w1 ⟨rfl, f1⟩)
    have hB1 := hB.fr f1 hB.lt (by simp)
    have hF1 := hF2.trans (f1.mono hF2.size (by simp))
    have ha1 := clkIn_fr ha hF1
    have hb1 := clkIn_fr hb hF1
    have hc1 := clkIn_fr hc hF1
    have p0 : w1.cell? ⟨w.heap.size, 0, none⟩ = some (.slice A1 xs.length c1) := hB1.cell 0
    have p1 : w1.cell? ⟨w.heap.size, 1, none⟩ = some (.slice A2 ys.length c2) := hB1.cell 1
    clear f1 hB
    go_upto_region 3 with (go_at_call 15; (with_reducible refine (compare_is w1 _ _ xs ys _ e1 (by omega) (by omega) ha1 hb1).mono ?_); rintro e w2 ⟨rfl, f2⟩)
    have hB2 := hB1.fr f2 hB1.lt (by simp)
    have p0 : w2.cell? ⟨w.heap.size, 0, none⟩ = some (.slice A1 xs.length c1) := hB2.cell 0
    have p1 : w2.cell? ⟨w.heap.size, 1, none⟩ = some (.slice A2 ys.length c2) := hB2.cell 1
    go_upto_region 4 with (go_at_call 15; (with_reducible refine (compare_is w2 _ _ ys xs _ e2 (by omega) (by omega) (clkIn_fr hb1 f2) (clkIn_fr ha1 f2)).mono ?_); rintro e w3 ⟨rfl, f3⟩)
    have hB3 := hB2.fr f3 hB2.lt (by simp)
    have p1 : w3.cell? ⟨w.heap.size, 1, none⟩ = some (.slice A2 ys.length c2) := hB3.cell 1
    have p2 : w3.cell? ⟨w.heap.size, 2, none⟩ = some (.slice A3 zs.length c3) := hB3.cell 2
    go_upto_region 11 with (first
      | (go_at_call 15; (with_reducible refine (compare_is w3 _ _ ys zs _ (by first | exact e3 | rfl) (by omega) (by omega) (clkIn_fr (clkIn_fr hb1 f2) f3) (clkIn_fr (clkIn_fr hc1 f2) f3)).mono ?_); rintro e w5 ⟨rfl, f5⟩))
    have hf5 := (f2.trans (f3.mono f2.size (by simp))).trans (f5.mono (Nat.le_trans f2.size f3.size) (by simp))
    have hB5 := hB1.fr hf5 hB1.lt (by simp)
    have ia5 := clkIn_fr ha1 hf5
    have hF5 := hF1.trans (hf5.mono hF1.size (by simp))
    have p0 : w5.cell? ⟨w.heap.size, 0, none⟩ = some (.slice A1 xs.length c1) := hB5.cell 0
    clear hf5 hF1 hF2 p1 p2 ha1 hb1 hc1 hB1 hB2 hB3 f2 f3 f5 ha hb hc
    go_upto_region 12 with (go_at_call 22; (refine (hnext w5 ia5).mono ?_); rintro e w6 ⟨rfl, f6⟩)
    have hF6 := hF5.trans (f6.mono hF5.size (by simp))
    have hB6 := (hB5.fr f6 hB5.lt (by simp)).alloc (.cells #[.int .u64 ((nextN xs ac).a : Int), .int .u64 ((nextN xs ac).n : Int)] 27)
    have ia6 := clkIn_alloc (clkIn_fr ia5 f6) (.cells #[.int .u64 ((nextN xs ac).a : Int), .int .u64 ((nextN xs ac).n : Int)] 27)
    have hD6 : Has (w6.alloc (.cells #[.int .u64 ((nextN xs ac).a : Int), .int .u64 ((nextN xs ac).n : Int)] 27)) w6.heap.size 27 [.int .u64 ((nextN xs ac).a : Int), .int .u64 ((nextN xs ac).n : Int)] := Has.new _ _ _
    have hF7 := hF6.alloc hF6.size (.cells #[.int .u64 ((nextN xs ac).a : Int), .int .u64 ((nextN xs ac).n : Int)] 27)
    obtain ⟨W7, hW7⟩ : ∃ W7, w6.alloc (.cells #[.int .u64 ((nextN xs ac).a : Int), .int .u64 ((nextN xs ac).n : Int)] 27) = W7 := ⟨_, rfl⟩
    rw [hW7] at hB6 ia6 hD6 hF7 ⊢
    clear hW7 hF6 hB5 ia5 hF5 p0
    obtain ⟨d, hd⟩ : ∃ d, nextN xs ac = d := ⟨_, rfl⟩
    simp only [hd] at hD6 HNN HNA hadd hab hcv1 hcv2 hnl ⊢
    clear hd hnext
    have p0 : W7.cell? ⟨w.heap.size, 0, none⟩ = some (.slice A1 xs.length c1) := hB6.cell 0
    have p3 : W7.cell? ⟨w6.heap.size, 0, none⟩ = some (.int .u64 (d.a : Int)) := hD6.cell 0
    have p4 : W7.cell? ⟨w6.heap.size, 1, none⟩ = some (.int .u64 (d.n : Int)) := hD6.cell 1
    by_cases hm : getN xs ac < 18446744073709551615
    · have HN : Hid (d.n = getN xs ac + 1) := by refine Lib.hid ?_; rw [HNN.out, if_pos hm]
      have hv := hcv1 hm
      have hcp := hab hm
      clear hcv1 hcv2 hab
      go_upto_region 14 with (go_at_call 14; (refine (covers_is W7 _ xs d _ hv (by omega) ia6).mono ?_); rintro e w8 ⟨rfl, f8⟩)
      have hB8 := hB6.fr f8 hB6.lt (by simp)
      have hD8 := hD6.fr f8 hD6.lt (by simp)
      have ia8 := clkIn_fr ia6 f8
      have hF8 := hF7.trans (f8.mono hF7.size (by simp))
      have p0 : w8.cell? ⟨w.heap.size, 0, none⟩ = some (.slice A1 xs.length c1) := hB8.cell 0
      have p3 : w8.cell? ⟨w6.heap.size, 0, none⟩ = some (.int .u64 (d.a : Int)) := hD8.cell 0
      have p4 : w8.cell? ⟨w6.heap.size, 1, none⟩ = some (.int .u64 (d.n : Int)) := hD8.cell 1
      have l0 := hB8.lt
      have l1 := hD8.lt
      clear hB6 hD6 ia6 hF7 f8 f6
      have hB9 : Has (w8.alloc (.cells #[.int .u64 (d.a : Int), .int .u64 (d.n : Int)] 27)).drew w.heap.size 24 [.slice A1 xs.length c1, .slice A2 ys.length c2, .slice A3 zs.length c3] := hB8.alloc _
      have hD9 : Has (w8.alloc (.cells #[.int .u64 (d.a : Int), .int .u64 (d.n : Int)] 27)).drew w6.heap.size 27 [.int .u64 (d.a : Int), .int .u64 (d.n : Int)] := hD8.alloc _
      have hN9 : Has (w8.alloc (.cells #[.int .u64 (d.a : Int), .int .u64 (d.n : Int)] 27)).drew w8.heap.size 27 [.int .u64 (d.a : Int), .int .u64 (d.n : Int)] := Has.new _ _ _
      have ia9 : ClkIn (w8.alloc (.cells #[.int .u64 (d.a : Int), .int .u64 (d.n : Int)] 27)).drew (.slice A1 xs.length c1) xs := clkIn_alloc ia8 _
      have hF9 : Fr w.heap.size [] w (w8.alloc (.cells #[.int .u64 (d.a : Int), .int .u64 (d.n : Int)] 27)).drew := (hF8.alloc hF8.size _).drew
      have hCA := hadd _ _ hN9 ia9
      have hx1 : xs.length ≤ 8796093022208 := by omega
      have hx2 : (normL (xs ++ [d])).length ≤ 8796093022208 := by omega
      have l2 := hB9.lt
      have l3 := hD9.lt
      go_region_held3 (fun W => W.cell? ⟨w.heap.size, 0, none⟩ = some (.slice A1 xs.length c1) ∧ W.cell? ⟨w6.heap.size, 0, none⟩ = some (.int .u64 (d.a : Int)) ∧ W.cell? ⟨w6.heap.size, 1, none⟩ = some (.int .u64 (d.n : Int)))
        (first | go_keep | exact ⟨q0, q3, q4⟩)
        (first
          | (go_at_call 23; (with_reducible refine hCA.mono ?_); rintro e w9 ⟨⟨v9, rfl, g9⟩, f9⟩; have q0 := (hB9.fr f9 l2 List.not_mem_nil).cell 0; have q3 := (hD9.fr f9 l3 List.not_mem_nil).cell 0; have q4 := (hD9.fr f9 l3 List.not_mem_nil).cell 1)
          | (go_at_call 15; (with_reducible refine (compare_is w9 _ _ xs _ _ hcp hx1 hx2 (clkIn_fr ia9 f9) (clkIn_own g9)).mono ?_); rintro e w10 ⟨rfl, f10⟩; have q0 := ((hB9.fr f9 l2 List.not_mem_nil).fr f10 (Nat.lt_of_lt_of_le l2 f9.size) List.not_mem_nil).cell 0; have q3 := ((hD9.fr f9 l3 List.not_mem_nil).fr f10 (Nat.lt_of_lt_of_le l3 f9.size) List.not_mem_nil).cell 0; have q4 := ((hD9.fr f9 l3 List.not_mem_nil).fr f10 (Nat.lt_of_lt_of_le l3 f9.size) List.not_mem_nil).cell 1))
      go_wp2
      go_ret
      have hF10 := hF9.trans (f9.mono hF9.size (by simp))
      exact ⟨rfl, hF10.trans (f10.mono hF10.size (by simp))⟩
    · have HN : Hid (d.n = 18446744073709551615) := by refine Lib.hid ?_; rw [HNN.out, if_neg hm]; omega
      have hv := hcv2 (by omega)
      clear hcv1 hcv2 hab
      have hwr : IntKind.u64.wrap ((d.n : Int) + 1) = 0 := by rw [HN.out]; decide
      go_wp2_with (go_at_call 14; (refine (covers_is W7 _ xs d _ hv (by omega) ia6).mono ?_); rintro e w8 ⟨rfl, f8⟩; have hD8 := hD6.fr f8 hD6.lt (by simp); have p4 : w8.cell? ⟨w6.heap.size, 1, none⟩ = some (.int .u64 (d.n : Int)) := hD8.cell 1)
      go_ret
      exact ⟨rfl, hF7.trans (f8.mono hF7.size (by simp))⟩
set_option maxHeartbeats 8000000 in
set_option maxRecDepth 100000 in
theorem order_b (w : World) (a b c : Value) (xs ys zs : List Dot) (ac : Nat) (ha : ClkIn w a xs) (hb : ClkIn w b ys) (hc : ClkIn w c zs) (hx : xs.length ≤ 8796093022000) (hy : ys.length ≤ 8796093022000) (hz : zs.length ≤ 8796093022000) (okx : ∀ d ∈ xs, d.ok)
    (hcs : (cmpC xs ys = -1 ∧ cmpC ys xs = 1 ∧ cmpC ys zs = -1 ∧ cmpC xs zs = -1) ∨ (cmpC xs ys = -1 ∧ cmpC ys xs = 1 ∧ cmpC ys zs = 0 ∧ cmpC xs zs = -1) ∨ (cmpC xs ys = 0 ∧ cmpC ys xs = 0 ∧ cmpC ys zs = -1 ∧ cmpC xs zs = -1) ∨ (cmpC xs ys = 0 ∧ cmpC ys xs = 0 ∧ cmpC ys zs = 0 ∧ cmpC xs zs = 0)) :
    Calls Try.prog 5 #[.agg #[a, b, c], .int .u64 (ac : Int)] w fun e w' => e = .returned (.bool true) ∧ Fr w.heap.size [] w w' := by
  have hg : getN xs ac < 18446744073709551616 := by
    rcases getN_ex xs ac with h0 | ⟨d, hd, _, h2⟩
    · omega
    · have := (okx d hd).2; omega
  have hnext := fun W (h : ClkIn W a xs) => next_any W a xs ac (by omega) h hg
  have hadd := fun W b (hb : Has W b 27 [.int .u64 ((nextN xs ac).a : Int), .int .u64 ((nextN xs ac).n : Int)]) (h : ClkIn W a xs) => add1_at W a xs (nextN xs ac) b (by omega) hb h
  have hab := add_above xs ac
  have hcv1 := covers_next xs ac
  have hcv2 := covers_last xs ac
  have hnl := normL_len (xs ++ [nextN xs ac])
  rw [List.length_append, List.length_singleton] at hnl
  have hna : (nextN xs ac).a = ac := rfl
  have hnn : (nextN xs ac).n = if getN xs ac < 18446744073709551615 then getN xs ac + 1 else getN xs ac := rfl
  obtain ⟨A1, c1, rfl, _⟩ := id ha
  obtain ⟨A2, c2, rfl, _⟩ := id hb
  obtain ⟨A3, c3, rfl, _⟩ := id hc
  obtain ⟨W2, hW2⟩ : ∃ W2, w.alloc (.cells #[.slice A1 xs.length c1, .slice A2 ys.length c2, .slice A3 zs.length c3] 24) = W2 := ⟨_, rfl⟩
  have hB : Has W2 w.heap.size 24 [.slice A1 xs.length c1, .slice A2 ys.length c2, .slice A3 zs.length c3] := by rw [← hW2]; exact Has.new w _ _
  have hF2 : Fr w.heap.size [] w W2 := by rw [← hW2]; exact (Fr.refl _ _ _).alloc (Nat.le_refl _) _
  have HNN := Lib.hid hnn
  have HNA := Lib.hid hna
  clear hnn hna
  rcases hcs with ⟨e1, e2, e3, e4⟩ | ⟨e1, e2, e3, e4⟩ | ⟨e1, e2, e3, e4⟩ | ⟨e1, e2, e3, e4⟩
  all_goals
    go_enter Try.func5, Try.ntmps5
    go_upto_region 1 with (fail)
    clear hW2
    go_upto_region 2 with (go_at_call 10; (refine (awake06_any W2).mono ?_); rintro e w1 ⟨rfl, f1⟩)
    have hB1 := hB.fr f1 hB.lt (by simp)
    have hF1 := hF2.trans (f1.mono hF2.size (by simp))
    have ha1 := clkIn_fr ha hF1
    have hb1 := clkIn_fr hb hF1
    have hc1 := clkIn_fr hc hF1
    have p0 : w1.cell? ⟨w.heap.size, 0, none⟩ = some (.slice A1 xs.length c1) := hB1.cell 0
    have p1 : w1.cell? ⟨w.heap.size, 1, none⟩ = some (.slice A2 ys.length c2) := hB1.cell 1
    clear f1 hB
    go_upto_region 3 with (go_at_call 15; (with_reducible refine (compare_is w1 _ _ xs ys _ e1 (by omega) (by omega) ha1 hb1).mono ?_); rintro e w2 ⟨rfl, f2⟩)
    have hB2 := hB1.fr f2 hB1.lt (by simp)
    have p0 : w2.cell? ⟨w.heap.size, 0, none⟩ = some (.slice A1 xs.length c1) := hB2.cell 0
    have p1 : w2.cell? ⟨w.heap.size, 1, none⟩ = some (.slice A2 ys.length c2) := hB2.cell 1
    go_upto_region 4 with (go_at_call 15; (with_reducible refine (compare_is w2 _ _ ys xs _ e2 (by omega) (by omega) (clkIn_fr hb1 f2) (clkIn_fr ha1 f2)).mono ?_); rintro e w3 ⟨rfl, f3⟩)
    have hB3 := hB2.fr f3 hB2.lt (by simp)
    have p1 : w3.cell? ⟨w.heap.size, 1, none⟩ = some (.slice A2 ys.length c2) := hB3.cell 1
    have p2 : w3.cell? ⟨w.heap.size, 2, none⟩ = some (.slice A3 zs.length c3) := hB3.cell 2
    go_upto_region 11 with (first
      | (go_at_call 15; (with_reducible refine (compare_is w4 _ _ xs zs _ e4 (by omega) (by omega) (clkIn_fr (clkIn_fr (clkIn_fr ha1 f2) f3) f4) (clkIn_fr (clkIn_fr (clkIn_fr hc1 f2) f3) f4)).mono ?_); rintro e w5 ⟨rfl, f5⟩; have b5 := hB4.fr f5 hB4.lt (by simp)) | (go_at_call 15; (with_reducible refine (compare_is w3 _ _ ys zs _ e3 (by omega) (by omega) (clkIn_fr (clkIn_fr hb1 f2) f3) (clkIn_fr (clkIn_fr hc1 f2) f3)).mono ?_); rintro e w4 ⟨rfl, f4⟩; have hB4 := hB3.fr f4 hB3.lt (by simp); have p0 : w4.cell? ⟨w.heap.size, 0, none⟩ = some (.slice A1 xs.length c1) := hB4.cell 0; have p2 : w4.cell? ⟨w.heap.size, 2, none⟩ = some (.slice A3 zs.length c3) := hB4.cell 2))
    have hf5 := ((f2.trans (f3.mono f2.size (by simp))).trans (f4.mono (Nat.le_trans f2.size f3.size) (by simp))).trans (f5.mono (Nat.le_trans (Nat.le_trans f2.size f3.size) f4.size) (by simp))
    have hB5 := hB1.fr hf5 hB1.lt (by simp)
    have ia5 := clkIn_fr ha1 hf5
    have hF5 := hF1.trans (hf5.mono hF1.size (by simp))
    have p0 : w5.cell? ⟨w.heap.size, 0, none⟩ = some (.slice A1 xs.length c1) := hB5.cell 0
    clear hf5 hF1 hF2 p1 p2 ha1 hb1 hc1 hB1 hB2 hB3 f2 f3 f5 ha hb hc
    go_upto_region 12 with (go_at_call 22; (refine (hnext w5 ia5).mono ?_); rintro e w6 ⟨rfl, f6⟩)
    have hF6 := hF5.trans (f6.mono hF5.size (by simp))
    have hB6 := (hB5.fr f6 hB5.lt (by simp)).alloc (.cells #[.int .u64 ((nextN xs ac).a : Int), .int .u64 ((nextN xs ac).n : Int)] 27)
    have ia6 := clkIn_alloc (clkIn_fr ia5 f6) (.cells #[.int .u64 ((nextN xs ac).a : Int), .int .u64 ((nextN xs ac).n : Int)] 27)
    have hD6 : Has (w6.alloc (.cells #[.int .u64 ((nextN xs ac).a : Int), .int .u64 ((nextN xs ac).n : Int)] 27)) w6.heap.size 27 [.int .u64 ((nextN xs ac).a : Int), .int .u64 ((nextN xs ac).n : Int)] := Has.new _ _ _
    have hF7 := hF6.alloc hF6.size (.cells #[.int .u64 ((nextN xs ac).a : Int), .int .u64 ((nextN xs ac).n : Int)] 27)
    obtain ⟨W7, hW7⟩ : ∃ W7, w6.alloc (.cells #[.int .u64 ((nextN xs ac).a : Int), .int .u64 ((nextN xs ac).n : Int)] 27) = W7 := ⟨_, rfl⟩
    rw [hW7] at hB6 ia6 hD6 hF7 ⊢
    clear hW7 hF6 hB5 ia5 hF5 p0
    obtain ⟨d, hd⟩ : ∃ d, nextN xs ac = d := ⟨_, rfl⟩
    simp only [hd] at hD6 HNN HNA hadd hab hcv1 hcv2 hnl ⊢
    clear hd hnext
    have p0 : W7.cell? ⟨w.heap.size, 0, none⟩ = some (.slice A1 xs.length c1) := hB6.cell 0
    have p3 : W7.cell? ⟨w6.heap.size, 0, none⟩ = some (.int .u64 (d.a : Int)) := hD6.cell 0
    have p4 : W7.cell? ⟨w6.heap.size, 1, none⟩ = some (.int .u64 (d.n : Int)) := hD6.cell 1
    by_cases hm : getN xs ac < 18446744073709551615
    · have HN : Hid (d.n = getN xs ac + 1) := by refine Lib.hid ?_; rw [HNN.out, if_pos hm]
      have hv := hcv1 hm
      have hcp := hab hm
      clear hcv1 hcv2 hab
      go_upto_region 14 with (go_at_call 14; (refine (covers_is W7 _ xs d _ hv (by omega) ia6).mono ?_); rintro e w8 ⟨rfl, f8⟩)
      have hB8 := hB6.fr f8 hB6.lt (by simp)
      have hD8 := hD6.fr f8 hD6.lt (by simp)
      have ia8 := clkIn_fr ia6 f8
      have hF8 := hF7.trans (f8.mono hF7.size (by simp))
      have p0 : w8.cell? ⟨w.heap.size, 0, none⟩ = some (.slice A1 xs.length c1) := hB8.cell 0
      have p3 : w8.cell? ⟨w6.heap.size, 0, none⟩ = some (.int .u64 (d.a : Int)) := hD8.cell 0
      have p4 : w8.cell? ⟨w6.heap.size, 1, none⟩ = some (.int .u64 (d.n : Int)) := hD8.cell 1
      have l0 := hB8.lt
      have l1 := hD8.lt
      clear hB6 hD6 ia6 hF7 f8 f6
      have hB9 : Has (w8.alloc (.cells #[.int .u64 (d.a : Int), .int .u64 (d.n : Int)] 27)).drew w.heap.size 24 [.slice A1 xs.length c1, .slice A2 ys.length c2, .slice A3 zs.length c3] := hB8.alloc _
      have hD9 : Has (w8.alloc (.cells #[.int .u64 (d.a : Int), .int .u64 (d.n : Int)] 27)).drew w6.heap.size 27 [.int .u64 (d.a : Int), .int .u64 (d.n : Int)] := hD8.alloc _
      have hN9 : Has (w8.alloc (.cells #[.int .u64 (d.a : Int), .int .u64 (d.n : Int)] 27)).drew w8.heap.size 27 [.int .u64 (d.a : Int), .int .u64 (d.n : Int)] := Has.new _ _ _
      have ia9 : ClkIn (w8.alloc (.cells #[.int .u64 (d.a : Int), .int .u64 (d.n : Int)] 27)).drew (.slice A1 xs.length c1) xs := clkIn_alloc ia8 _
      have hF9 : Fr w.heap.size [] w (w8.alloc (.cells #[.int .u64 (d.a : Int), .int .u64 (d.n : Int)] 27)).drew := (hF8.alloc hF8.size _).drew
      have hCA := hadd _ _ hN9 ia9
      have hx1 : xs.length ≤ 8796093022208 := by omega
      have hx2 : (normL (xs ++ [d])).length ≤ 8796093022208 := by omega
      have l2 := hB9.lt
      have l3 := hD9.lt
      go_region_held3 (fun W => W.cell? ⟨w.heap.size, 0, none⟩ = some (.slice A1 xs.length c1) ∧ W.cell? ⟨w6.heap.size, 0, none⟩ = some (.int .u64 (d.a : Int)) ∧ W.cell? ⟨w6.heap.size, 1, none⟩ = some (.int .u64 (d.n : Int)))
        (first | go_keep | exact ⟨q0, q3, q4⟩)
        (first
          | (go_at_call 23; (with_reducible refine hCA.mono ?_); rintro e w9 ⟨⟨v9, rfl, g9⟩, f9⟩; have q0 := (hB9.fr f9 l2 List.not_mem_nil).cell 0; have q3 := (hD9.fr f9 l3 List.not_mem_nil).cell 0; have q4 := (hD9.fr f9 l3 List.not_mem_nil).cell 1)
          | (go_at_call 15; (with_reducible refine (compare_is w9 _ _ xs _ _ hcp hx1 hx2 (clkIn_fr ia9 f9) (clkIn_own g9)).mono ?_); rintro e w10 ⟨rfl, f10⟩; have q0 := ((hB9.fr f9 l2 List.not_mem_nil).fr f10 (Nat.lt_of_lt_of_le l2 f9.size) List.not_mem_nil).cell 0; have q3 := ((hD9.fr f9 l3 List.not_mem_nil).fr f10 (Nat.lt_of_lt_of_le l3 f9.size) List.not_mem_nil).cell 0; have q4 := ((hD9.fr f9 l3 List.not_mem_nil).fr f10 (Nat.lt_of_lt_of_le l3 f9.size) List.not_mem_nil).cell 1))
      go_wp2
      go_ret
      have hF10 := hF9.trans (f9.mono hF9.size (by simp))
      exact ⟨rfl, hF10.trans (f10.mono hF10.size (by simp))⟩
    · have HN : Hid (d.n = 18446744073709551615) := by refine Lib.hid ?_; rw [HNN.out, if_neg hm]; omega
      have hv := hcv2 (by omega)
      clear hcv1 hcv2 hab
      have hwr : IntKind.u64.wrap ((d.n : Int) + 1) = 0 := by rw [HN.out]; decide
      go_wp2_with (go_at_call 14; (refine (covers_is W7 _ xs d _ hv (by omega) ia6).mono ?_); rintro e w8 ⟨rfl, f8⟩; have hD8 := hD6.fr f8 hD6.lt (by simp); have p4 : w8.cell? ⟨w6.heap.size, 1, none⟩ = some (.int .u64 (d.n : Int)) := hD8.cell 1)
      go_ret
      exact ⟨rfl, hF7.trans (f8.mono hF7.size (by simp))⟩
theorem order_law (w : World) (a b c : Value) (xs ys zs : List Dot) (ac : Nat) (ha : ClkIn w a xs) (hb : ClkIn w b ys) (hc : ClkIn w c zs) (hx : xs.length ≤ 8796093022000) (hy : ys.length ≤ 8796093022000) (hz : zs.length ≤ 8796093022000) (okx : ∀ d ∈ xs, d.ok) :
    Calls Try.prog 5 #[.agg #[a, b, c], .int .u64 (ac : Int)] w fun e w' => e = .returned (.bool true) ∧ Fr w.heap.size [] w w' := by
  rcases cmp_cases xs ys zs with h | h
  · exact order_a w a b c xs ys zs ac ha hb hc hx hy hz okx h
  · exact order_b w a b c xs ys zs ac ha hb hc hx hy hz okx h
end Go.Proofs.Ytaglginhaofgeaa
