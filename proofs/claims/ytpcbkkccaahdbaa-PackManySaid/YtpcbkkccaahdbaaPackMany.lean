/- PackMany answers true, whatever the bytes and the least size. -/
import Derived.Test.YtpcbkkccaahdbaaPackAwake
namespace Go.Proofs.Ytpcbkkccaahdbaa
open Go.RowKit
open Pk
theorem manyE_div (l : List UInt8) (e least : Int) : (manyE l e least).1 ≤ (manyE l e least).2.1.length / (max least 1).toNat := by
  unfold manyE
  split
  · split
    · exact Nat.zero_le _
    · rename_i h1
      exact Nat.not_lt.1 h1
  · exact Nat.zero_le _
theorem manyE_rest (l : List UInt8) (e ls : Int) : (manyE l e ls).2.1.length ≤ l.length := by
  have h := numE_len l e
  unfold manyE
  split
  · split
    · exact Nat.zero_le _
    · exact h
  · exact h
set_option maxHeartbeats 1000000 in
set_option maxRecDepth 100000 in
theorem many_law (w : World) (s : ByteArray) (least : Int) (hs : s.size ≤ 4611686018427387904) (h0 : -9223372036854775808 ≤ least) (h1 : least ≤ 9223372036854775807) :
    Calls Try.prog 4 #[.string s, .int .i64 least] w fun e w' => e = .returned (.bool true) ∧ Fr w.heap.size [] w w' := by
  obtain ⟨l, rfl⟩ : ∃ l, s = mkS l := ⟨s.data.toList, (mkS_of s).symm⟩
  rw [mkS_size] at hs
  have hd := manyE_div l 0 least
  have hr := manyE_rest l 0 least
  have hm := fun W b (h : RdL W b l 0) => manyE_any W b l 0 least h hs h0 h1
  obtain ⟨q, hq⟩ : ∃ q, Hid (q = manyE l 0 least) := ⟨_, rfl⟩
  simp only [← hq.out] at hd hr hm
  obtain ⟨n, r, e⟩ := q
  simp only at hd hr hm
  have hms : (mkS l).size = l.length := mkS_size l
  have hn0 : (0 : Int) ≤ (n : Int) := by omega
  have hrl : (r.length : Int) ≤ (l.length : Int) := by omega
  by_cases hl1 : least < 1
  all_goals
    first
      | (have hdi : (n : Int) ≤ (r.length : Int) / 1 := by rw [show (max least 1).toNat = 1 by omega] at hd; omega
         rw [Int.ediv_one] at hdi)
      | (obtain ⟨D, hD⟩ : ∃ D, Hid (D = r.length / (max least 1).toNat) := ⟨_, rfl⟩
         rw [← hD.out] at hd
         have hDr : D ≤ r.length := by rw [hD.out]; exact Nat.div_le_self _ _
         have hdi : wrap64 ((r.length : Int) / least) = (D : Int) := by
           obtain ⟨m, rfl⟩ := Int.eq_ofNat_of_zero_le (show 0 ≤ least by omega)
           have : (r.length : Int) / (m : Int) = (D : Int) := by rw [hD.out, show (max (m : Int) 1).toNat = m by omega]; omega
           rw [this]; unfold wrap64; omega
         have hdj : (n : Int) ≤ (D : Int) := by omega)
    by_cases hnz : n = 0
    all_goals
      first
        | (subst hnz; have hnb : True := trivial)
        | have hnb : ((n : Int) == 0) = false := by rw [beq_eq_false_iff_ne]; omega
      clear hd
      go_enter Try.func4, Try.ntmps4
      go_wp2_with (first
        | (go_at_call 18; (refine (leftL w3 _ _ _ h3).mono ?_); rintro e w4 ⟨rfl, rfl⟩)
        | (go_at_call 17; (refine (hm w2 _ h2).mono ?_); rintro e w3 ⟨rfl, h3, o3⟩)
        | (go_at_call 16; (refine (read_any w1 (mkS l)).mono ?_); rintro e w2 ⟨rfl, h2, f2⟩)
        | (go_at_call 8; (refine (awake02_any w).mono ?_); rintro e w1 ⟨rfl, f1⟩))
      go_ret
      exact ⟨rfl, (f1.trans (f2.mono f1.size (by simp))).one o3 (.inr f1.size)⟩
end Go.Proofs.Ytpcbkkccaahdbaa
