/- Clocks as bytes and texts: read again, and read just if they are (plain). -/
import Derived.Test.YtaglginhaofgeaaClkLaw
import Derived.Test.YtaglginhaofgeaaNumP
namespace Go.Proofs.Ytaglginhaofgeaa
open Go.RowKit
open Ck Pk
namespace Ck
/-- A clock that is right. -/
structure Right (l : List Dot) : Prop where
  pair : l.Pairwise fun x y => x.a < y.a
  pos : ∀ d ∈ l, 0 < d.n
  ok : ∀ d ∈ l, d.ok
theorem right_norm {ds : List Dot} (h : ∀ d ∈ ds, d.ok) : Right (normL ds) := ⟨(normL_ok ds).1, (normL_ok ds).2.1, (canon_norm ds).ok h⟩
theorem Right.norm {l : List Dot} (h : Right l) : normL l = l := by
  refine Canon.ext (canon_norm l) (p2 := l) ⟨Sorted.of h.pair, fun d hd => ⟨h.pos d hd, (getN_mem h.pair hd).symm⟩, fun a ha => ?_⟩ fun _ => rfl
  rcases getN_ex l a with h0 | ⟨x, hx, hxa, _⟩
  · omega
  · exact ⟨x, hx, hxa⟩
theorem badD_no {acc : List Dot} {d : Dot} {rest : List Dot} (h : (acc ++ d :: rest).Pairwise fun x y => x.a < y.a) (hn : 0 < d.n) : badD acc d = false := by
  unfold badD
  rw [decide_eq_false (by omega), Bool.false_or]
  cases hg : acc.getLast? with
  | none => rfl
  | some p =>
    simp only [decide_eq_false_iff_not]
    have := (List.pairwise_append.1 h).2.2 p (List.mem_of_getLast? hg) d List.mem_cons_self
    omega
theorem goC_put : ∀ (rest acc : List Dot), (acc ++ rest).Pairwise (fun x y => x.a < y.a) → (∀ d ∈ rest, d.ok ∧ 0 < d.n) → goC rest.length acc (rest.flatMap dotB) 0 = (acc ++ rest, [], 0)
  | [], acc, _, _ => by simp [goC]
  | d :: rest, acc, hp, ho => by
    obtain ⟨⟨h1, h2⟩, h3⟩ := ho d List.mem_cons_self
    have e : (d :: rest).flatMap dotB = numB d.a ++ (numB d.n ++ rest.flatMap dotB) := by
      rw [List.flatMap_cons]; unfold dotB; rw [List.append_assoc]
    rw [e, List.length_cons]
    unfold goC
    rw [np_put h1]
    simp only
    rw [np_put h2]
    simp only
    rw [badD_no hp h3]
    have hp2 : (acc ++ [d] ++ rest).Pairwise fun x y => x.a < y.a := by rw [List.append_assoc]; exact hp
    simp only [Bool.false_eq_true, if_false]
    rw [goC_put rest (acc ++ [d]) hp2 (fun x hx => ho x (List.mem_cons_of_mem _ hx))]
    simp
theorem dotB_pos (d : Dot) : 2 ≤ (dotB d).length := by
  unfold dotB
  have h : ∀ n, 0 < (numB n).length := fun n => by
    by_cases h : n < 128
    · rw [numB_small h]; simp
    · rw [numB_big h]; simp
  have := h d.a
  have := h d.n
  rw [List.length_append]; omega
theorem dotsB_ge : ∀ l : List Dot, 2 * l.length ≤ (l.flatMap dotB).length
  | [] => by simp
  | d :: l => by
    have := dotB_pos d
    have := dotsB_ge l
    rw [List.flatMap_cons, List.length_append, List.length_cons]; omega
theorem readC_put {l : List Dot} (h : Right l) (hl : l.length ≤ 10000000000000) : readC (clkB l) = (l, 0) := by
  unfold readC clkB
  have hm : manyE (numB l.length ++ l.flatMap dotB) 0 2 = (l.length, l.flatMap dotB, 0) := by
    unfold manyE
    rw [np_put (by omega)]
    simp only
    rw [if_pos trivial, if_neg]
    have := dotsB_ge l
    have e : (max (2 : Int) 1).toNat = 2 := rfl
    rw [e]
    omega
  rw [hm]
  simp only
  rw [goC_put l [] (by simpa using h.pair) (fun d hd => ⟨h.ok d hd, h.pos d hd⟩)]
  rfl
theorem hex_all : ∀ i : Fin 16, hexI ((hexD i.val).toNat : Int) = (i.val : Int) := by decide +kernel
theorem hex_at (n : Nat) (h : n < 16) : hexI ((hexD n).toNat : Int) = (n : Int) := hex_all ⟨n, h⟩
theorem unhex_hex : ∀ l : List UInt8, unhex (hexB l) = some l
  | [] => rfl
  | x :: l => by
    have e : hexB (x :: l) = hexD (x.toNat / 16) :: hexD (x.toNat % 16) :: hexB l := rfl
    have hx := x.toNat_lt
    rw [e]
    unfold unhex
    rw [hex_at _ (by omega), hex_at _ (by omega), if_neg (by omega), unhex_hex l]
    simp only [Option.map_some, Option.some.injEq, List.cons.injEq, and_true]
    apply UInt8.toNat.inj
    rw [np_ofNat (by omega)]
    omega
theorem parseC_put (l : List UInt8) : parseC (hexB l) = readC l := by unfold parseC; rw [unhex_hex]
theorem hex_inv_all : ∀ i : Fin 256, 0 ≤ hexI (i.val : Int) → hexD (hexI (i.val : Int)).toNat = UInt8.ofNat i.val := by decide +kernel
theorem hex_inv (x : UInt8) (h : 0 ≤ hexI (x.toNat : Int)) : hexD (hexI (x.toNat : Int)).toNat = x := by
  have := hex_inv_all ⟨x.toNat, x.toNat_lt⟩ h
  rw [this]
  simp
theorem hexB_unhex : ∀ (l b : List UInt8), unhex l = some b → hexB b = l
  | [], b, h => by simp [unhex] at h; subst h; rfl
  | [_], b, h => by simp [unhex] at h
  | x :: y :: r, b, h => by
    unfold unhex at h
    split at h
    · cases h
    · rename_i hn
      obtain ⟨c, hc, rfl⟩ := Option.map_eq_some_iff.1 h
      have hx := hexI_lt (x.toNat : Int)
      have hy := hexI_lt (y.toNat : Int)
      have e : ∀ z : UInt8, hexB (z :: c) = hexD (z.toNat / 16) :: hexD (z.toNat % 16) :: hexB c := fun _ => rfl
      rw [e, hexB_unhex r c hc, np_ofNat (by omega)]
      have e1 : (hexI (x.toNat : Int) * 16 + hexI (y.toNat : Int)).toNat / 16 = (hexI (x.toNat : Int)).toNat := by omega
      have e2 : (hexI (x.toNat : Int) * 16 + hexI (y.toNat : Int)).toNat % 16 = (hexI (y.toNat : Int)).toNat := by omega
      rw [e1, e2, hex_inv x (by omega), hex_inv y (by omega)]
theorem goC_err : ∀ (k : Nat) (acc : List Dot) (r : List UInt8) (e : Int), e ≠ 0 → (goC k acc r e).2.2 ≠ 0
  | 0, acc, r, e, h => h
  | k + 1, acc, r, e, h => by
    have e1 : numE r e = (0, r, e) := by unfold numE; rw [if_neg h]
    unfold goC
    rw [e1]
    simp only
    rw [e1]
    have hb : badD acc ⟨0, 0⟩ = true := by unfold badD; simp
    simp only [hb, if_true]
    unfold failE
    rw [if_neg h]
    exact h
theorem pair_snoc {acc : List Dot} {d : Dot} (h : acc.Pairwise fun x y => x.a < y.a) (hb : badD acc d = false) : (acc ++ [d]).Pairwise fun x y => x.a < y.a := by
  refine List.pairwise_append.2 ⟨h, List.pairwise_singleton _ _, fun x hx y hy => ?_⟩
  rw [List.mem_singleton.1 hy]
  unfold badD at hb
  rw [Bool.or_eq_false_iff] at hb
  cases hg : acc.getLast? with
  | none => rw [List.getLast?_eq_none_iff.1 hg] at hx; simp at hx
  | some p =>
    rw [hg] at hb
    simp only [decide_eq_false_iff_not] at hb
    obtain ⟨ys, rfl⟩ := List.getLast?_eq_some_iff.1 hg
    rcases List.mem_append.1 hx with h1 | h1
    · have := (List.pairwise_append.1 h).2.2 x h1 p List.mem_cons_self
      omega
    · rw [List.mem_singleton.1 h1]; omega
theorem goC_inv : ∀ (k : Nat) (acc : List Dot) (r : List UInt8) (c : List Dot) (r' : List UInt8), acc.Pairwise (fun x y => x.a < y.a) → goC k acc r 0 = (c, r', 0) →
    ∃ new, c = acc ++ new ∧ new.length = k ∧ r = new.flatMap dotB ++ r' ∧ (∀ d ∈ new, d.ok ∧ 0 < d.n) ∧ c.Pairwise (fun x y => x.a < y.a)
  | 0, acc, r, c, r', hp, h => by
    simp only [goC, Prod.mk.injEq, and_true] at h
    obtain ⟨rfl, rfl⟩ := h
    exact ⟨[], by simp, rfl, by simp, by simp, hp⟩
  | k + 1, acc, r, c, r', hp, h => by
    unfold goC at h
    have l1 := numE_lt r 0
    obtain ⟨q1, hq1⟩ : ∃ q, numE r 0 = q := ⟨_, rfl⟩
    rw [hq1] at h l1
    obtain ⟨a, r1, e1⟩ := q1
    simp only at h l1
    have l2 := numE_lt r1 e1
    obtain ⟨q2, hq2⟩ : ∃ q, numE r1 e1 = q := ⟨_, rfl⟩
    rw [hq2] at h l2
    obtain ⟨n, r2, e2⟩ := q2
    simp only at h l2
    split at h
    · exfalso
      have h1 := congrArg (fun g => g.2.2) h
      have h2 : (failE r2 e2 31).2 = 0 := h1
      unfold failE at h2
      split at h2
      · cases h2
      · contradiction
    · rename_i hb
      have hb : badD acc ⟨a, n⟩ = false := by simpa using hb
      by_cases he2 : e2 = 0
      · subst he2
        have he1 : e1 = 0 := by
          rcases Classical.em (e1 = 0) with h0 | h0
          · exact h0
          · unfold numE at hq2
            rw [if_neg h0] at hq2
            simp only [Prod.mk.injEq] at hq2
            exact hq2.2.2
        subst he1
        obtain ⟨new, h1, h2, h3, h4, h5⟩ := goC_inv k (acc ++ [⟨a, n⟩]) r2 c r' (pair_snoc hp hb) h
        refine ⟨⟨a, n⟩ :: new, by rw [h1]; simp, by rw [List.length_cons, h2], ?_, ?_, h5⟩
        · rw [np_inv hq1, np_inv hq2, h3, List.flatMap_cons]
          unfold dotB
          simp
        · intro d hd
          rcases List.mem_cons.1 hd with rfl | hd
          · refine ⟨⟨l1, l2⟩, ?_⟩
            unfold badD at hb
            rw [Bool.or_eq_false_iff] at hb
            have := of_decide_eq_false hb.1
            simp only at this ⊢
            omega
          · exact h4 d hd
      · exact absurd (congrArg (fun g => g.2.2) h) (goC_err k _ r2 e2 he2)
theorem readC_or (l : List UInt8) : (readC l).2 = 0 ∨ readC l = ([], 31) := by
  unfold readC endC
  split
  · exact .inl rfl
  · exact .inr rfl
theorem readC_inv {l : List UInt8} {c : List Dot} (h : readC l = (c, 0)) : l = clkB c ∧ Right c := by
  unfold readC at h
  obtain ⟨m, hm⟩ : ∃ m, manyE l 0 2 = m := ⟨_, rfl⟩
  rw [hm] at h
  obtain ⟨n, r0, e0⟩ := m
  simp only at h
  have hd : doneL (goC n [] r0 e0).2.1 (goC n [] r0 e0).2.2 = 0 := by
    unfold endC at h
    split at h
    · assumption
    · cases h
  have hc : (goC n [] r0 e0).1 = c := by
    unfold endC at h
    rw [if_pos hd] at h
    exact congrArg (·.1) h
  have he : (goC n [] r0 e0).2.2 = 0 := by
    unfold doneL at hd
    split at hd
    · assumption
    · contradiction
  have hr : (goC n [] r0 e0).2.1 = [] := by
    unfold doneL at hd
    rw [if_pos he] at hd
    split at hd
    · assumption
    · cases hd
  have he0 : e0 = 0 := Classical.byContradiction fun h0 => goC_err n [] r0 e0 h0 he
  subst he0
  have hg : goC n [] r0 0 = (c, [], 0) := Prod.ext hc (Prod.ext hr he)
  obtain ⟨new, h1, h2, h3, h4, h5⟩ := goC_inv n [] r0 c [] List.Pairwise.nil hg
  rw [List.nil_append] at h1
  subst h1
  have hl : numE l 0 = (n, r0, 0) := by
    unfold manyE at hm
    split at hm
    · split at hm
      · cases hm
      · exact hm
    · rename_i h0
      simp only [Prod.mk.injEq] at hm
      exact absurd (congrArg (·.2) hm.2) h0
  refine ⟨?_, h5, fun d hd => (h4 d hd).2, fun d hd => (h4 d hd).1⟩
  rw [np_inv hl, h3, ← h2]
  unfold clkB
  simp
theorem parseC_or (l : List UInt8) : (parseC l).2 = 0 ∨ parseC l = ([], 31) := by
  unfold parseC
  split
  · exact .inr rfl
  · exact readC_or _
theorem parseC_inv {l : List UInt8} {c : List Dot} (h : parseC l = (c, 0)) : l = hexB (clkB c) ∧ Right c := by
  unfold parseC at h
  split at h
  · cases h
  · rename_i b hb
    obtain ⟨h1, h2⟩ := readC_inv h
    exact ⟨by rw [← h1]; exact (hexB_unhex l b hb).symm, h2⟩
/-- The reference's way. -/
def goR : Nat → List Dot → List UInt8 → Int → Bool → List Dot × List UInt8 × Int × Bool
  | 0, acc, r, e, b => (acc, r, e, b)
  | k + 1, acc, r, e, b => goR k (acc ++ [⟨(numE r e).1, (numE (numE r e).2.1 (numE r e).2.2).1⟩]) (numE (numE r e).2.1 (numE r e).2.2).2.1 (numE (numE r e).2.1 (numE r e).2.2).2.2
      (b && !badD acc ⟨(numE r e).1, (numE (numE r e).2.1 (numE r e).2.2).1⟩)
def endR (g : List Dot × List UInt8 × Int × Bool) : List Dot × Int := if g.2.2.1 = 0 ∧ g.2.2.2 = true ∧ g.2.1 = [] then (g.1, 0) else ([], 31)
theorem goR_false : ∀ (k : Nat) (acc : List Dot) (r : List UInt8) (e : Int), (goR k acc r e false).2.2.2 = false
  | 0, _, _, _ => rfl
  | k + 1, acc, r, e => by unfold goR; rw [Bool.false_and]; exact goR_false k _ _ _
theorem go_same : ∀ (k : Nat) (acc : List Dot) (r : List UInt8) (e : Int), endR (goR k acc r e true) = endC (goC k acc r e)
  | 0, acc, r, e => by
    unfold goR goC endR endC doneL
    simp only
    by_cases he : e = 0
    · by_cases hr : r = []
      · simp [he, hr]
      · simp [he, hr]
    · simp [he]
  | k + 1, acc, r, e => by
    unfold goR goC
    split
    · rename_i hb
      rw [hb]
      simp only [Bool.not_true, Bool.and_false]
      rw [endC_no doneF]
      unfold endR
      rw [goR_false, if_neg (by simp)]
    · rename_i hb
      rw [show badD acc _ = false by simpa using hb]
      simp only [Bool.not_false, Bool.and_true]
      exact go_same k _ _ _
end Ck
end Go.Proofs.Ytaglginhaofgeaa
