/- What was laid down is taken up again; cut short it ends too early (plain). -/
import Derived.Test.YtpcbkkccaahdbaaPackPlain
import Derived.Test.YtpcbkkccaahdbaaPackNormal
namespace Go.Proofs.Ytpcbkkccaahdbaa
open Go.RowKit
namespace Pk
theorem norm0_kind (t : Th) : (norm0 t).kind ≠ 5 := by
  unfold norm0
  split
  · exact (by decide : (0 : Int) ≠ 5)
  · assumption
theorem norm0_n (t : Th) : (norm0 t).n = t.n := by unfold norm0; split <;> rfl
theorem norm0_s (t : Th) : (norm0 t).s = t.s := by unfold norm0; split <;> rfl
theorem norm0_least (t : Th) : (norm0 t).least = t.least := by unfold norm0; split <;> rfl
theorem norm0_ok {t : Th} (h : t.ok) : (norm0 t).ok := by
  refine ⟨?_, by rw [norm0_least]; exact h.2.1, by rw [norm0_n]; exact h.2.2⟩
  unfold norm0
  split
  · exact ⟨(by decide : -9223372036854775808 ≤ (0 : Int)), (by decide : (0 : Int) ≤ 9223372036854775807)⟩
  · exact h.1
theorem sgn_back {n : Nat} (h : n < 18446744073709551616) : (sgn n % 18446744073709551616).toNat = n := by unfold sgn wrap64; omega
theorem size_lt {s : ByteArray} : s.data.toList.length = s.size := by simp
theorem mkS_data (s : ByteArray) : mkS s.data.toList = s := mkS_of s
theorem textE_put (s : ByteArray) (hs : s.size < 18446744073709551616) (r : List UInt8) : textE (textB s.data.toList ++ r) 0 = (s.data.toList, r, 0) := by
  have hn : numE (textB s.data.toList ++ r) 0 = (s.size, s.data.toList ++ r, 0) := by
    unfold textB
    rw [List.append_assoc, size_lt]
    exact numE_put hs _
  have hm : manyE (textB s.data.toList ++ r) 0 1 = (s.size, s.data.toList ++ r, 0) := by
    unfold manyE
    rw [hn]
    simp only [if_true]
    rw [if_neg]
    rw [show (max (1 : Int) 1).toNat = 1 by decide, Nat.div_one, List.length_append, size_lt]
    omega
  unfold textE
  rw [hm]
  simp only
  unfold rawE
  rw [if_pos rfl, if_pos (by rw [List.length_append, size_lt]; omega), ← size_lt, List.take_left, List.drop_left]
theorem take_put (u : Th) (hk : u.kind ≠ 5) (hn : u.n < 18446744073709551616) (hs : u.s.size < 18446744073709551616) (r : List UInt8) : takeE u (thB u ++ r) 0 = (normT u, r, 0) := by
  obtain ⟨k, ls, n, s⟩ := u
  simp only at hk hn hs
  rcases six k with rfl | rfl | rfl | rfl | rfl | ⟨h1, h2, h3, h4, h5⟩
  · rw [thB_1, takeE_1, normT_5 (by decide) (by decide) (by decide)]
    have hr := sgn_rng n
    have hz := numE_put (zig_lt hr.1 hr.2) r
    have : intE (intB (sgn n) ++ r) 0 = (sgn n, r, 0) := by
      unfold intE intB
      rw [hz]
      simp only [zag_zig]
    rw [this]
    simp only [sgn_back hn]
  · rw [thB_2, takeE_2, normT_2]
    have : flagE (flagB ((n : Int) % 2 == 1) ++ r) 0 = ((n : Int) % 2 == 1, r, 0) := by
      rw [show flagE (flagB ((n : Int) % 2 == 1) ++ r) 0 = flagD (flagB ((n : Int) % 2 == 1) ++ r) from if_pos rfl]
      cases ((n : Int) % 2 == 1) <;> rfl
    rw [this]
    by_cases h : n % 2 = 1
    · have hb : ((n : Int) % 2 == 1) = true := by rw [beq_iff_eq]; omega
      simp only [hb, if_true, h]
    · have hb : ((n : Int) % 2 == 1) = false := by rw [beq_eq_false_iff_ne]; omega
      simp only [hb, Bool.false_eq_true, if_false, show n % 2 = 0 by omega]
  · rw [thB_3, takeE_3, normT_3, textE_put s hs r, mkS_data]
  · rw [thB_4, takeE_4, normT_4]
    have : rawE (s.data.toList ++ r) 0 s.size = (s.data.toList, r, 0) := by
      unfold rawE
      rw [if_pos rfl, if_pos (by rw [List.length_append, size_lt]; omega), ← size_lt, List.take_left, List.drop_left]
    rw [this, mkS_data]
  · exact absurd rfl hk
  · rw [thB_5 h1 h2 h3 h4, takeE_6 h1 h2 h3 h4 h5, normT_5 h2 h3 h4, numE_put hn]
theorem take_bad (u : Th) : (takeE u [] 10).2 = ([], 10) := by
  obtain ⟨k, ls, n, s⟩ := u
  have hm : ∀ l : Int, manyE [] 10 l = (0, [], 10) := fun l => by
    unfold manyE numE; rw [if_neg (show ¬ ((10 : Int) = 0) by decide)]; exact if_neg (by decide)
  rcases six k with rfl | rfl | rfl | rfl | rfl | ⟨h1, h2, h3, h4, h5⟩
  · rw [takeE_1]; rfl
  · rw [takeE_2]; rfl
  · rw [takeE_3]; unfold textE; rw [hm]; rfl
  · rw [takeE_4]; rfl
  · rw [takeE_5, hm]
  · rw [takeE_6 h1 h2 h3 h4 h5]; rfl
theorem numE_cut10 {n j : Nat} (h : n < 18446744073709551616) (hj : j < (numB n).length) : (numE ((numB n).take j) 0).2 = ([], 10) := by rw [numE_cut h hj]
theorem take_cut (u : Th) (hk : u.kind ≠ 5) (hn : u.n < 18446744073709551616) (hs : u.s.size < 18446744073709551616) (j : Nat) (hj : j < (thB u).length) : (takeE u ((thB u).take j) 0).2 = ([], 10) := by
  obtain ⟨k, ls, n, s⟩ := u
  simp only at hk hn hs
  rcases six k with rfl | rfl | rfl | rfl | rfl | ⟨h1, h2, h3, h4, h5⟩
  · rw [thB_1] at hj ⊢
    rw [takeE_1]
    have hr := sgn_rng n
    exact numE_cut10 (zig_lt hr.1 hr.2) hj
  · rw [thB_2] at hj ⊢
    rw [takeE_2]
    have h0 : j = 0 := by unfold flagB at hj; split at hj <;> simpa using hj
    subst h0
    rfl
  · rw [thB_3] at hj ⊢
    rw [takeE_3]
    unfold textB at hj ⊢
    rw [List.length_append, size_lt] at hj
    rw [size_lt]
    have hm : manyE ((numB s.size ++ s.data.toList).take j) 0 1 = (0, [], 10) := by
      by_cases h : j < (numB s.size).length
      · rw [List.take_append_of_le_length (by omega)]
        unfold manyE
        rw [numE_cut hs h]
        exact if_neg (by decide)
      · rw [List.take_append, List.take_of_length_le (by omega)]
        unfold manyE
        rw [numE_put hs]
        simp only [if_true]
        rw [if_pos]
        rw [show (max (1 : Int) 1).toNat = 1 by decide, Nat.div_one, List.length_take, size_lt]
        omega
    unfold textE
    rw [hm]
    rfl
  · rw [thB_4] at hj ⊢
    rw [takeE_4]
    rw [size_lt] at hj
    unfold rawE
    rw [if_pos rfl, if_neg (by rw [List.length_take, size_lt]; omega)]
  · exact absurd rfl hk
  · rw [thB_5 h1 h2 h3 h4] at hj ⊢
    rw [takeE_6 h1 h2 h3 h4 h5]
    exact numE_cut10 hn hj
/-- Things taken up one behind the other: what is left, and the error. -/
def runE : List Th → List UInt8 × Int → List UInt8 × Int
  | [], st => st
  | u :: us, st => runE us (takeE u st.1 st.2).2
theorem runE_snoc : ∀ (us : List Th) (u : Th) (st : List UInt8 × Int), runE (us ++ [u]) st = (takeE u (runE us st).1 (runE us st).2).2
  | [], _, _ => rfl
  | v :: us, u, st => by rw [List.cons_append, runE, runE_snoc us u]; rfl
theorem runE_bad : ∀ us : List Th, runE us ([], 10) = ([], 10)
  | [] => rfl
  | u :: us => by rw [runE, take_bad, runE_bad us]
theorem runE_cut : ∀ (us : List Th), (∀ u ∈ us, u.kind ≠ 5 ∧ u.n < 18446744073709551616 ∧ u.s.size < 18446744073709551616) → ∀ j, j < (us.flatMap thB).length → runE us ((us.flatMap thB).take j, 0) = ([], 10)
  | [], _, j, hj => by simp at hj
  | u :: us, h, j, hj => by
    obtain ⟨hk, hn, hs⟩ := h u (by simp)
    rw [List.flatMap_cons] at hj ⊢
    rw [runE]
    by_cases hc : j < (thB u).length
    · rw [List.take_append_of_le_length (by omega), take_cut u hk hn hs j hc, runE_bad]
    · rw [List.take_append, List.take_of_length_le (by omega), take_put u hk hn hs]
      exact runE_cut us (fun v hv => h v (by simp [hv])) _ (by rw [List.length_append] at hj; omega)
theorem runE_len : ∀ (us : List Th) (st : List UInt8 × Int), (runE us st).1.length ≤ st.1.length
  | [], st => Nat.le_refl _
  | u :: us, st => by
    rw [runE]
    refine Nat.le_trans (runE_len us _) ?_
    obtain ⟨k, ls, n, s⟩ := u
    obtain ⟨l, e⟩ := st
    have hN := numE_len l e
    have hM : ∀ x : Int, (manyE l e x).2.1.length ≤ l.length := fun x => (manyE_le l e x).2
    have hR : ∀ (l : List UInt8) (e : Int) (m : Nat), (rawE l e m).2.1.length ≤ l.length := fun l e m => by
      unfold rawE
      split
      · split <;> simp
      · exact Nat.le_refl _
    rcases six k with rfl | rfl | rfl | rfl | rfl | ⟨h1, h2, h3, h4, h5⟩
    · rw [takeE_1]; exact hN
    · rw [takeE_2]
      show (flagE l e).2.1.length ≤ l.length
      unfold flagE
      split
      · cases l with
        | nil => exact Nat.le_refl _
        | cons c r => unfold flagD; simp only; split <;> simp
      · exact Nat.le_refl _
    · rw [takeE_3]; exact Nat.le_trans (hR _ _ _) (hM 1)
    · rw [takeE_4]; exact hR _ _ _
    · rw [takeE_5]; exact hM ls
    · rw [takeE_6 h1 h2 h3 h4 h5]; exact hN
end Pk
end Go.Proofs.Ytpcbkkccaahdbaa
