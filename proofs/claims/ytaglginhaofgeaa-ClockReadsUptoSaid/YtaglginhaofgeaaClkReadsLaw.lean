/- The law: any bytes, and any text, are read as the clock that they are, or refused. -/
import Derived.Test.YtaglginhaofgeaaClkRefR
import Derived.Test.YtaglginhaofgeaaClkBytesLaw
namespace Go.Proofs.Ytaglginhaofgeaa
open Go.RowKit Go.Shelf
open Ck Pk
/-- A clock that was read is a right one, or nothing. -/
theorem read_end (l : List UInt8) : (readC l).2 = 0 ∧ l = clkB (readC l).1 ∧ Right (readC l).1 ∨ (readC l).2 = 31 := by
  rcases readC_or l with h | h
  · have := readC_inv (l := l) (c := (readC l).1) (Prod.ext rfl h)
    exact .inl ⟨h, this.1, this.2⟩
  · exact .inr (by rw [h])
theorem parse_end (l : List UInt8) : (parseC l).2 = 0 ∧ l = hexB (clkB (parseC l).1) ∧ Right (parseC l).1 ∨ (parseC l).2 = 31 := by
  rcases parseC_or l with h | h
  · have := parseC_inv (l := l) (c := (parseC l).1) (Prod.ext rfl h)
    exact .inl ⟨h, this.1, this.2⟩
  · exact .inr (by rw [h])
theorem clkB_ge (c : List Dot) : c.length ≤ (clkB c).length := by
  have := dotsB_ge c
  unfold clkB
  rw [List.length_append]; omega
theorem read_len (l : List UInt8) : (readC l).1.length ≤ l.length := by
  rcases readC_or l with h | h
  · have := (readC_inv (l := l) (c := (readC l).1) (Prod.ext rfl h)).1
    have h2 := clkB_ge (readC l).1
    rw [← this] at h2
    exact h2
  · rw [h]; simp
theorem parse_len (l : List UInt8) : (parseC l).1.length ≤ l.length := by
  rcases parseC_or l with h | h
  · have := (parseC_inv (l := l) (c := (parseC l).1) (Prod.ext rfl h)).1
    have h2 := clkB_ge (parseC l).1
    have h3 := congrArg List.length this
    rw [hexB_len] at h3
    omega
  · rw [h]; simp
set_option maxHeartbeats 8000000 in
set_option maxRecDepth 100000 in
theorem reads_law (w : World) (s t : ByteArray) (hs : s.size ≤ 1048576) (ht : t.size ≤ 1048576) :
    Calls Try.prog 4 #[.string s, .string t] w fun e w' => e = .returned (.bool true) ∧ Fr w.heap.size [] w w' := by
  have ls : s.data.toList.length = s.size := by simp
  have lt : t.data.toList.length = t.size := by simp
  have cR := fun W => readC_any W s.data.toList (by omega)
  have rR := fun W => rRead_any W s.data.toList (by omega)
  simp only [mkS_of] at cR rR
  have cP := fun W => parseC_any W t (by omega)
  have rP := fun W => rParse_any W t (by omega)
  have hr := read_end s.data.toList
  have hp := parse_end t.data.toList
  have hrl := read_len s.data.toList
  have hpl := parse_len t.data.toList
  generalize readC s.data.toList = X at cR rR hr hrl
  generalize parseC t.data.toList = Y at cP rP hp hpl
  obtain ⟨a, ea⟩ := X
  obtain ⟨c, ec⟩ := Y
  simp only at cR rR cP rP hr hp hrl hpl
  have la : a.length ≤ 8796093022208 := by omega
  have lc : c.length ≤ 8796093022208 := by omega
  have la2 : a.length ≤ 100000000000 := by omega
  have lc2 : c.length ≤ 100000000000 := by omega
  clear ls lt
  have hB : ∀ W v, ClkIn W v a → ea = 0 → Calls Try.prog 20 #[v] W fun e w' => e = .returned (.string s) ∧ Fr W.heap.size [] W w' := fun W v h he => by
    rcases hr with ⟨_, h1, h2⟩ | h1
    · have := bytes_any W v a (normL a) la2 h2.ok h (canon_norm a)
      rw [h2.norm, ← h1] at this
      rw [show (⟨s.data.toList.toArray⟩ : ByteArray) = s from mkS_of s] at this
      exact this
    · omega
  have hT : ∀ W v, ClkIn W v c → ec = 0 → Calls Try.prog 21 #[v] W fun e w' => e = .returned (.string t) ∧ Fr W.heap.size [] W w' := fun W v h he => by
    rcases hp with ⟨_, h1, h2⟩ | h1
    · have := text_any W v c (normL c) lc2 h2.ok h (canon_norm c) (normL_len c)
      rw [h2.norm, ← h1] at this
      rw [show (⟨t.data.toList.toArray⟩ : ByteArray) = t from mkS_of t] at this
      exact this
    · omega
  have hea : ea = 0 ∨ ea = 31 := by rcases hr with h | h; exact .inl h.1; exact .inr h
  have hec : ec = 0 ∨ ec = 31 := by rcases hp with h | h; exact .inl h.1; exact .inr h
  clear hr hp hrl hpl
  rcases hea with rfl | rfl <;> rcases hec with rfl | rfl
  all_goals
    go_enter Try.func4, Try.ntmps4
    go_upto_region 6 with (first
      | (go_at_call 19; (with_reducible refine (rP w4).mono ?_); rintro e w5 ⟨⟨v5, rfl, g5⟩, f5⟩)
      | (go_at_call 18; (with_reducible refine (cP w3).mono ?_); rintro e w4 ⟨⟨v4, rfl, g4⟩, f4⟩)
      | (go_at_call 17; (with_reducible refine (rR w2).mono ?_); rintro e w3 ⟨⟨v3, rfl, g3⟩, f3⟩)
      | (go_at_call 16; (with_reducible refine (cR w1).mono ?_); rintro e w2 ⟨⟨v2, rfl, g2⟩, f2⟩)
      | (go_at_call 10; (with_reducible refine (awake06_any w).mono ?_); rintro e w1 ⟨rfl, f1⟩))
    have z2 := f1.trans (f2.mono f1.size (by simp))
    have z3 := z2.trans (f3.mono z2.size (by simp))
    have z4 := z3.trans (f4.mono z3.size (by simp))
    have hF5 := z4.trans (f5.mono z4.size (by simp))
    have k2 := clkIn_fr (clkIn_fr (clkIn_fr (clkIn_own g2) f3) f4) f5
    have k3 := clkIn_fr (clkIn_fr (clkIn_own g3) f4) f5
    have k4 := clkIn_fr (clkIn_own g4) f5
    have k5 := clkIn_own g5
    clear z2 z3 z4 f1 f2 f3 f4 f5 g2 g3 g4 g5 cR cP rR rP
    go_upto_region 10 with (first
      | (go_at_call 11; (with_reducible refine (sameC_any w6 _ _ c c rfl lc (clkIn_fr k4 f6) (clkIn_fr k5 f6)).mono ?_); rintro e w7 ⟨rfl, f7⟩)
      | (go_at_call 11; (with_reducible refine (sameC_any w5 _ _ a a rfl la k2 k3).mono ?_); rintro e w6 ⟨rfl, f6⟩))
    have hF6 := hF5.trans (f6.mono hF5.size (by simp))
    have hF7 := hF6.trans (f7.mono hF6.size (by simp))
    have k2 := clkIn_fr (clkIn_fr k2 f6) f7
    have k4 := clkIn_fr (clkIn_fr k4 f6) f7
    clear k3 k5 hF5 hF6 f6 f7
  · go_wp2_with (first
      | (go_at_call 21; (with_reducible refine (hT w8 _ (clkIn_fr k4 f8) trivial).mono ?_); rintro e w9 ⟨rfl, f9⟩)
      | (go_at_call 20; (with_reducible refine (hB w7 _ k2 trivial).mono ?_); rintro e w8 ⟨rfl, f8⟩))
    go_ret
    have hF8 := hF7.trans (f8.mono hF7.size (by simp))
    exact ⟨rfl, hF8.trans (f9.mono hF8.size (by simp))⟩
  · go_wp2_with (go_at_call 20; (with_reducible refine (hB w7 _ k2 trivial).mono ?_); rintro e w8 ⟨rfl, f8⟩)
    go_ret
    exact ⟨rfl, hF7.trans (f8.mono hF7.size (by simp))⟩
  · go_wp2_with (go_at_call 21; (with_reducible refine (hT w7 _ k4 trivial).mono ?_); rintro e w8 ⟨rfl, f8⟩)
    go_ret
    exact ⟨rfl, hF7.trans (f8.mono hF7.size (by simp))⟩
  · go_wp2
    go_ret
    exact ⟨rfl, hF7⟩
end Go.Proofs.Ytaglginhaofgeaa
