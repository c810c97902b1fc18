/- PackOne answers true, whatever the bytes and the kind. -/
import Derived.Test.YtpcbkkccaahdbaaPackInv
import Derived.Test.YtpcbkkccaahdbaaClass
namespace Go.Proofs.Ytpcbkkccaahdbaa
open Go.RowKit
namespace Pk
theorem numE_err {l : List UInt8} (h : (numE l 0).2.2 ≠ 0) : (numE l 0).2.1 = [] := by
  have := (numD_fst l 0 0 (by decide) (by decide)).2.2
  rw [show numE l 0 = numD 0 0 l from if_pos rfl] at h ⊢
  rw [this h]
/-- Where a thing of the kinds 0 to 3 was taken up: an error, and nothing left; or the thing's own bytes, and the rest. -/
structure OneOk (q : Th × List UInt8 × Int) (l : List UInt8) : Prop where
  bad : q.2.2 ≠ 0 → q.2.1 = []
  good : q.2.2 = 0 → thB q.1 ++ q.2.1 = l
  n : q.1.n < 18446744073709551616
theorem numE_eq {l : List UInt8} (h : (numE l 0).2.2 = 0) : numE l 0 = ((numE l 0).1, (numE l 0).2.1, 0) :=
  Prod.ext rfl (Prod.ext rfl h)
theorem one_0 (l : List UInt8) : OneOk (takeE ⟨0, 0, 0, ByteArray.empty⟩ l 0) l := by
  rw [takeE_6 (by decide) (by decide) (by decide) (by decide) (by decide)]
  refine ⟨numE_err, fun h => ?_, numE_lt l 0⟩
  rw [thB_5 (by decide) (by decide) (by decide) (by decide)]
  exact (num_inv (numE_eq h)).symm
theorem one_1 (l : List UInt8) : OneOk (takeE ⟨1, 0, 0, ByteArray.empty⟩ l 0) l := by
  rw [takeE_1]
  refine ⟨numE_err, fun h => ?_, by show (_ : Int).toNat < _; omega⟩
  rw [thB_1]
  have hz := zag_rng (numE_lt l 0)
  have e : sgn ((intE l 0).1 % 18446744073709551616).toNat = zag (numE l 0).1 := by
    have : (intE l 0).1 = zag (numE l 0).1 := rfl
    rw [this]
    unfold sgn wrap64
    omega
  rw [e]
  unfold intB
  rw [zig_zag]
  exact (num_inv (numE_eq h)).symm
theorem one_2 (l : List UInt8) : OneOk (takeE ⟨2, 0, 0, ByteArray.empty⟩ l 0) l := by
  rw [takeE_2]
  have hf : flagE l 0 = flagD l := if_pos rfl
  rw [hf]
  cases l with
  | nil => exact ⟨fun _ => rfl, fun h => by simp [flagD] at h, by simp [flagD]⟩
  | cons c r =>
    by_cases h1 : 1 < c.toNat
    · have e : flagD (c :: r) = (false, [], 11) := if_pos h1
      rw [e]
      exact ⟨fun _ => rfl, fun h => by simp at h, by decide⟩
    · have e : flagD (c :: r) = (c.toNat == 1, r, 0) := if_neg h1
      rw [e]
      refine ⟨fun h => absurd rfl h, fun _ => ?_, by show (if _ then 1 else 0) < _; split <;> decide⟩
      rw [thB_2]
      by_cases hc : c.toNat = 1
      · obtain rfl : c = 1 := UInt8.toNat_inj.1 hc
        rfl
      · obtain rfl : c = 0 := UInt8.toNat_inj.1 (show c.toNat = 0 by omega)
        rfl
theorem manyE_1 {l r : List UInt8} {n : Nat} (h : manyE l 0 1 = (n, r, 0)) : numE l 0 = (n, r, 0) ∧ n ≤ r.length := by
  unfold manyE at h
  split at h
  · split at h
    · simp at h
    · rename_i h1
      rw [h] at h1
      refine ⟨h, ?_⟩
      simp only [show (max (1 : Int) 1).toNat = 1 by decide, Nat.div_one] at h1
      exact Nat.not_lt.1 h1
  · rename_i h1
    have := congrArg (fun q => q.2.2) h
    exact absurd this h1
theorem manyE_err {l : List UInt8} {ls : Int} (h : (manyE l 0 ls).2.2 ≠ 0) : (manyE l 0 ls).1 = 0 ∧ (manyE l 0 ls).2.1 = [] := by
  unfold manyE at h ⊢
  split at h
  · rename_i h1
    rw [if_pos h1]
    split at h
    · rename_i h2
      rw [if_pos h2]
      exact ⟨rfl, rfl⟩
    · exact absurd h1 h
  · rename_i h1
    rw [if_neg h1]
    exact ⟨rfl, numE_err h⟩
theorem one_3 (l : List UInt8) : OneOk (takeE ⟨3, 0, 0, ByteArray.empty⟩ l 0) l := by
  rw [takeE_3]
  unfold textE
  obtain ⟨q, hq⟩ : ∃ q, q = manyE l 0 1 := ⟨_, rfl⟩
  have herr := manyE_err (l := l) (ls := 1)
  rw [← hq] at herr ⊢
  obtain ⟨n, r, e⟩ := q
  by_cases he : e = 0
  · subst he
    obtain ⟨h1, h2⟩ := manyE_1 hq.symm
    have hr : rawE r 0 n = (r.take n, r.drop n, 0) := by unfold rawE; rw [if_pos rfl, if_pos h2]
    simp only [hr]
    refine ⟨fun h => absurd rfl h, fun _ => ?_, Nat.zero_lt_succ _⟩
    rw [thB_3, mkS_list]
    unfold textB
    rw [List.length_take_of_le h2, List.append_assoc, List.take_append_drop]
    exact (num_inv h1).symm
  · obtain ⟨h1, h2⟩ := herr he
    simp only at h1 h2
    subst h1
    subst h2
    have hr : rawE [] e 0 = ([], [], e) := by unfold rawE; rw [if_neg he]
    simp only [hr]
    exact ⟨fun _ => rfl, fun h => absurd h he, Nat.zero_lt_succ _⟩
end Pk
open Pk
set_option maxHeartbeats 2000000 in
set_option maxRecDepth 100000 in
theorem one_walk (w : World) (l : List UInt8) (kind K : Int) (hk : (kind.tmod 4 = K ∧ 0 ≤ K) ∨ (kind.tmod 4 = -K ∧ 0 < K)) (hK : K ≤ 3) (hl : l.length ≤ 140737488351232)
    (h1 : OneOk (takeE ⟨K, 0, 0, ByteArray.empty⟩ l 0) l) :
    Calls Try.prog 7 #[.string (mkS l), .int .i64 kind] w fun e w' => e = .returned (.bool true) ∧ Fr w.heap.size [] w w' := by
  have hK0 : 0 ≤ K := by omega
  have htk := fun W b (h : RdL W b l 0) => take_any W b l 0 ⟨K, 0, 0, ByteArray.empty⟩ h ⟨⟨by simp only; omega, by simp only; omega⟩, ⟨by simp only; omega, by simp only; omega⟩, Nat.zero_lt_succ _⟩ (by omega) (Nat.zero_le _)
  have hn := h1.n
  have hbad := h1.bad
  have hgood := h1.good
  clear h1
  have hms : (mkS l).size = l.length := mkS_size l
  obtain ⟨q, hq⟩ : ∃ q, Hid (q = takeE ⟨K, 0, 0, ByteArray.empty⟩ l 0) := ⟨_, rfl⟩
  simp only [← hq.out] at hn hbad hgood htk
  obtain ⟨⟨xk, xl, xn, xs⟩, r, e⟩ := q
  simp only [Th.val] at hn hbad hgood htk
  by_cases he : e = 0
  · subst he
    have hg := hgood rfl
    have hle : (thB ⟨xk, xl, xn, xs⟩).length + r.length = l.length := by rw [← List.length_append, hg]
    have hG := Lib.hid hg
    clear hgood hbad hg
    have hlen : ([] : List UInt8).length + (thB ⟨xk, xl, xn, xs⟩).length + 20 ≤ 140737488355328 := by simp only [List.length_nil]; omega
    obtain ⟨X, hX⟩ : ∃ X, Hid (X = thB ⟨xk, xl, xn, xs⟩) := ⟨_, rfl⟩
    have hlay := fun W b (h : Bld 32 b [] W) => lay_any W b [] ⟨xk, xl, xn, xs⟩ h hn hlen
    simp only [← hX.out] at hlay hle
    obtain ⟨SB, hSB⟩ : ∃ SB, Hid (SB = mkS X) := ⟨_, rfl⟩
    have hby : ∀ W b, Bld 32 b X W → Calls Try.prog 15 #[.pointer (some ⟨b, 0, none⟩)] W fun e w' => e = .returned (.string SB) ∧ Bld 32 b X w' ∧ WFr b W w' := fun W b h => by rw [hSB.out]; exact wBytes_any b X W h
    have hext : (mkS l).extract 0 X.length = SB := by
      rw [mkS_take, hSB.out, ← hG.out, ← hX.out, List.take_left]
    have hXl : (X.length : Int) ≤ l.length := by omega
    simp only [List.nil_append] at hlay
    by_cases hr : r = []
    all_goals
      first
        | (subst hr
           have hdn : doneR (mkS []) 0 = 0 := rfl
           have hu : (l.length : Int) = X.length := by simp at hle; omega
           have hrb : True := trivial)
        | (have hdn : True := trivial
           have hr0 : 0 < r.length := List.length_pos_iff.2 hr
           have hu : (l.length : Int) - (r.length : Int) = X.length := by omega
           have hrb : ((r.length : Int) == 0) = false := by rw [beq_eq_false_iff_ne]; omega)
      clear hle
      rcases hk with ⟨hk, hk0⟩ | ⟨hk, hk0⟩
      all_goals
        go_enter Try.func7, Try.ntmps7
        go_wp2_with (first
        | (go_at_call 9; (refine (hlay _ _ (Bld.new' _ 32 (by simp))).mono ?_); rintro e w5 ⟨rfl, h5, f5⟩)
        | (go_at_call 24; (refine (done_any _ _ _ _ (RdL.alloc h3 _)).mono ?_); (rw [hdn]); rintro e w4 ⟨rfl, rfl⟩)
        | (go_at_call 18; (refine (leftL _ _ _ _ (h3.alloc _)).mono ?_); rintro e w4 ⟨rfl, rfl⟩)
        | (go_at_call 22; (refine (htk w2 _ h2).mono ?_); rintro e w3 ⟨rfl, h3, f3⟩)
        | (go_at_call 16; (refine (read_any w1 (mkS l)).mono ?_); rintro e w2 ⟨rfl, h2, f2⟩)
        | (go_at_call 8; (refine (awake02_any w).mono ?_); rintro e w1 ⟨rfl, f1⟩))
        have g1 := (f1.trans (f2.mono f1.size (by simp)))
        have g3 := (g1.trans (f3.mono g1.size (fun k hk h => by have := f1.size; simp at hk; omega))).alloc (Nat.le_trans g1.size f3.size) (.cells #[.int .i64 xk, .int .i64 xl, .int .u64 (xn : Int), .string xs] 36)
        have g5 := (g3.alloc g3.size (.cells #[.pointer none, .slice none 0 0] 32)).below f5.below (by have := g3.size; simp at this; exact this)
        refine wp_region_class (fun W => Bld 32 (w3.heap.size + 1) X W ∧ Fr w.heap.size [] w W) (by kernel_rfl) (by kernel_rfl) (⟨h5.drew, g5.drew⟩) ?_
        repeat
          first
            | (refine wpQuiet_skip (by rfl) ?_; try simp only [Act.put, List.setIfInBounds_toArray, List.set_cons_zero, List.set_cons_succ])
            | (refine wpQuiet_take (by rfl) ?_
               apply Exists.intro
               refine ⟨fun W hW => ?_, ?_⟩
               · first
                   | (go_simp; done)
                   | (go_simp; exact rfl)
                   | (go_simp; (try refine ⟨rfl, ?_⟩); (go_at_call 15; exact (hby W _ hW.1).mono fun e w' ⟨he, hb, hf⟩ => ⟨he, hb, hW.2.below hf.below (by have := g3.size; simp at this; exact this)⟩); done)
               try simp only [Act.put, List.setIfInBounds_toArray, List.set_cons_zero, List.set_cons_succ])
        refine wpQuiet_nil ?_
        intro wq hq
        go_wp2
        go_ret
        exact ⟨rfl, hq.2⟩
  · have hr := hbad he
    subst hr
    clear hgood hbad hn
    have hdn : doneR (mkS []) e = e := by unfold doneR; rw [if_neg he]
    have heb : (e != 0) = true := bne_iff_ne.2 he
    rcases hk with ⟨hk, hk0⟩ | ⟨hk, hk0⟩
    all_goals
      go_enter Try.func7, Try.ntmps7
      go_wp2_with (first
        | (go_at_call 24; (refine (done_any _ _ _ _ (RdL.alloc h3 _)).mono ?_); (rw [hdn]); rintro e w4 ⟨rfl, rfl⟩)
        | (go_at_call 18; (refine (leftL _ _ _ _ (h3.alloc _)).mono ?_); rintro e w4 ⟨rfl, rfl⟩)
        | (go_at_call 22; (refine (htk w2 _ h2).mono ?_); rintro e w3 ⟨rfl, h3, f3⟩)
        | (go_at_call 16; (refine (read_any w1 (mkS l)).mono ?_); rintro e w2 ⟨rfl, h2, f2⟩)
        | (go_at_call 8; (refine (awake02_any w).mono ?_); rintro e w1 ⟨rfl, f1⟩))
      go_ret
      have g1 := (f1.trans (f2.mono f1.size (by simp)))
      exact ⟨rfl, (g1.trans (f3.mono g1.size (fun k hk h => by have := f1.size; simp at hk; omega))).alloc (Nat.le_trans g1.size f3.size) _⟩
theorem one_all (l : List UInt8) (K : Int) (h0 : 0 ≤ K) (h3 : K ≤ 3) : OneOk (takeE ⟨K, 0, 0, ByteArray.empty⟩ l 0) l := by
  rcases (show K = 0 ∨ K = 1 ∨ K = 2 ∨ K = 3 by omega) with rfl | rfl | rfl | rfl
  · exact one_0 l
  · exact one_1 l
  · exact one_2 l
  · exact one_3 l
theorem one_law (w : World) (s : ByteArray) (kind : Int) (hs : s.size ≤ 140737488351232) :
    Calls Try.prog 7 #[.string s, .int .i64 kind] w fun e w' => e = .returned (.bool true) ∧ Fr w.heap.size [] w w' := by
  obtain ⟨l, rfl⟩ : ∃ l, s = mkS l := ⟨s.data.toList, (mkS_of s).symm⟩
  rw [mkS_size] at hs
  have hm : (kind.tmod 4).natAbs < 4 := by rw [Int.natAbs_tmod]; exact Nat.mod_lt _ (by decide)
  by_cases h : 0 ≤ kind.tmod 4
  · exact one_walk w l kind (kind.tmod 4) (.inl ⟨rfl, h⟩) (by omega) hs (one_all l _ h (by omega))
  · exact one_walk w l kind (-(kind.tmod 4)) (.inr ⟨by omega, by omega⟩) (by omega) hs (one_all l _ (by omega) (by omega))
end Go.Proofs.Ytpcbkkccaahdbaa
