/- The reference's reader, as functions of what is left and the error. -/
import Derived.Test.YtaglginhaofgeaaPackTake
-- cut
namespace Go.Proofs.Ytaglginhaofgeaa
open Go.RowKit
open Pk
/-- The reference's reader in block b. -/
def RRd (w : World) (b : Nat) (l : List UInt8) (e : Int) : Prop := Has w b 72 [.string (mkS l), .int .i64 e]
theorem RRd.cells {w : World} {b : Nat} {l : List UInt8} {e : Int} (h : RRd w b l e) : w.cell? ⟨b, 0, none⟩ = some (.string (mkS l)) ∧ w.cell? ⟨b, 1, none⟩ = some (.int .i64 e) ∧ w.frozen? ⟨b, 0, none⟩ = false ∧ w.frozen? ⟨b, 1, none⟩ = false :=
  ⟨h.cell 0, h.cell 1, h.frozen 0, h.frozen 1⟩
def Pk.rfailE (r : List UInt8) (e x : Int) : List UInt8 × Int := if e = 0 then ([], x) else (r, e)
set_option maxHeartbeats 1000000 in
theorem rrFail_any (w : World) (b : Nat) (l : List UInt8) (e x : Int) (h : RRd w b l e) (hx : x ≠ 0) :
    Calls Try.prog 75 #[.pointer (some ⟨b, 0, none⟩), .int .i64 x] w fun r w' => r = .returned (.tuple #[]) ∧ RRd w' b (rfailE l e x).1 (rfailE l e x).2 ∧ One b w w' := by
  obtain ⟨c0, c1, z0, z1⟩ := h.cells
  unfold rfailE
  by_cases he : e = 0
  · have hb : (x != 0) = true := bne_iff_ne.2 hx
    subst he
    rw [if_pos rfl]
    go_enter Try.func75, Try.ntmps75
    go_wp2
    go_end0
    exact ⟨rfl, (Has.set (Has.set h 1 (.int .i64 x)) 0 (.string ByteArray.empty)), ((One.refl _ _).setCell 1 _).setCell 0 _⟩
  · have hb : (e == 0) = false := beq_eq_false_iff_ne.2 he
    rw [if_neg he]
    go_enter Try.func75, Try.ntmps75
    go_wp2
    go_end0
    exact ⟨rfl, h, One.refl _ _⟩
set_option maxHeartbeats 1000000 in
theorem rrRaw_any (w : World) (b : Nat) (l : List UInt8) (e : Int) (n : Nat) (h : RRd w b l e) (hn : n ≤ 9223372036854775807) :
    Calls Try.prog 76 #[.pointer (some ⟨b, 0, none⟩), .int .i64 n] w fun r w' => r = .returned (.string (mkS (rawE l e n).1)) ∧ RRd w' b (rawE l e n).2.1 (rawE l e n).2.2 ∧ One b w w' := by
  obtain ⟨c0, c1, z0, z1⟩ := h.cells
  have hn0 : ¬ ((n : Int) < 0) := by omega
  have hsz := mkS_size l
  have ht := mkS_take l n
  have hd := mkS_drop l n
  have hnil := mkS_nil
  unfold RRd at h
  unfold rawE
  by_cases he : e = 0
  · subst he
    rw [if_pos rfl]
    by_cases hl : n ≤ l.length
    · rw [if_pos hl]
      simp only
      unfold RRd
      rw [← ht, ← hd]
      generalize mkS l = S at h c0 c1 z0 z1 hsz ⊢
      have hle : n ≤ S.size := by omega
      have hlt : ¬ ((S.size : Int) < (n : Int)) := by omega
      clear hsz ht hd hnil
      go_enter Try.func76, Try.ntmps76
      go_wp2
      go_ret
      exact ⟨rfl, h.set 0 (.string (S.extract n S.size)), (One.refl b w).setCell 0 _⟩
    · rw [if_neg hl]
      simp only
      rw [hnil]
      have hF := rrFail_any w b l 0 10 h (by decide)
      unfold rfailE at hF
      rw [if_pos rfl] at hF
      unfold RRd at hF ⊢
      simp only [hnil] at hF ⊢
      generalize mkS l = S at h c0 c1 z0 z1 hsz ⊢
      have hlt : ((S.size : Int) < (n : Int)) := by omega
      clear hsz ht hd hnil hl
      go_enter Try.func76, Try.ntmps76
      go_wp2_with (go_at_call 75; (refine hF.mono ?_); rintro e w2 ⟨rfl, h2, o2⟩; obtain ⟨d0, d1⟩ : w2.cell? ⟨b, 0, none⟩ = some (.string ByteArray.empty) ∧ w2.cell? ⟨b, 1, none⟩ = some (.int .i64 10) := ⟨h2.cell 0, h2.cell 1⟩)
      go_ret
      exact ⟨rfl, h2, o2⟩
  · rw [if_neg he]
    simp only
    have hb : (e != 0) = true := bne_iff_ne.2 he
    rw [hnil]
    have hF := rrFail_any w b l e 10 h (by decide)
    unfold rfailE at hF
    rw [if_neg he] at hF
    unfold RRd at hF ⊢
    simp only at hF
    generalize mkS l = S at h c0 c1 z0 z1 hsz hF ⊢
    clear hsz ht hd hnil he
    by_cases hlt : ((S.size : Int) < (n : Int))
    · go_enter Try.func76, Try.ntmps76
      go_wp2_with (go_at_call 75; (refine hF.mono ?_); rintro e w2 ⟨rfl, h2, o2⟩; obtain ⟨d0, d1⟩ : w2.cell? ⟨b, 0, none⟩ = some (.string S) ∧ w2.cell? ⟨b, 1, none⟩ = some (.int .i64 e) := ⟨h2.cell 0, h2.cell 1⟩)
      go_ret
      exact ⟨rfl, h2, o2⟩
    · go_enter Try.func76, Try.ntmps76
      go_wp2
      go_ret
      exact ⟨rfl, h, One.refl _ _⟩
theorem Pk.rdone (l : List UInt8) (e : Int) : (if e = 0 then (if l = [] then 0 else 11) else e) = doneR (mkS l) e := by
  unfold doneR
  rw [mkS_size]
  cases l <;> simp
set_option maxHeartbeats 1000000 in
theorem rrDone_any (w : World) (b : Nat) (l : List UInt8) (e : Int) (h : RRd w b l e) :
    Calls Try.prog 52 #[.pointer (some ⟨b, 0, none⟩)] w fun r w' => r = .returned (.int .i64 (if e = 0 then (if l = [] then 0 else 11) else e)) ∧ w = w' := by
  obtain ⟨c0, c1, z0, z1⟩ := h.cells
  rw [rdone]
  generalize mkS l = S at c0 ⊢
  unfold doneR
  by_cases he : e = 0
  · subst he
    by_cases hs : S.size = 0
    · obtain rfl := empty_of_size hs
      go_enter Try.func52, Try.ntmps52
      go_wp2
      go_ret
      exact ⟨rfl, rfl⟩
    · have hb := nonempty_bool hs
      rw [if_pos rfl, if_neg hs]
      go_enter Try.func52, Try.ntmps52
      go_wp2
      go_ret
      exact ⟨rfl, rfl⟩
  · have hb : (e == 0) = false := beq_eq_false_iff_ne.2 he
    rw [if_neg he]
    go_enter Try.func52, Try.ntmps52
    go_wp2
    go_ret
    exact ⟨rfl, rfl⟩
theorem rr_raw1 (w : World) (b : Nat) (c : UInt8) (r : List UInt8) (S1 : ByteArray) (hS : S1 = mkS [c]) (h : RRd w b (c :: r) 0) :
    Calls Try.prog 76 #[.pointer (some ⟨b, 0, none⟩), .int .i64 1] w fun e w' => e = .returned (.string S1) ∧ RRd w' b r 0 ∧ One b w w' := by
  have := rrRaw_any w b (c :: r) 0 1 h (by decide)
  unfold rawE at this
  rw [if_pos rfl, if_pos (by simp)] at this
  rw [hS]
  exact this
theorem rr_raw0 (w : World) (b : Nat) (h : RRd w b [] 0) :
    Calls Try.prog 76 #[.pointer (some ⟨b, 0, none⟩), .int .i64 1] w fun e w' => e = .returned (.string ByteArray.empty) ∧ RRd w' b [] 10 ∧ One b w w' := by
  have := rrRaw_any w b [] 0 1 h (by decide)
  unfold rawE at this
  rw [if_pos rfl, if_neg (by simp)] at this
  exact this
theorem rr_rawE (w : World) (b : Nat) (l : List UInt8) (e : Int) (he : e ≠ 0) (h : RRd w b l e) :
    Calls Try.prog 76 #[.pointer (some ⟨b, 0, none⟩), .int .i64 1] w fun r w' => r = .returned (.string ByteArray.empty) ∧ RRd w' b l e ∧ One b w w' := by
  have := rrRaw_any w b l e 1 h (by decide)
  unfold rawE at this
  rw [if_neg he] at this
  exact this
theorem rr_fail0 (w : World) (b : Nat) (l : List UInt8) (x : Int) (hx : x ≠ 0) (h : RRd w b l 0) :
    Calls Try.prog 75 #[.pointer (some ⟨b, 0, none⟩), .int .i64 x] w fun r w' => r = .returned (.tuple #[]) ∧ RRd w' b [] x ∧ One b w w' := by
  have := rrFail_any w b l 0 x h hx
  unfold rfailE at this
  rw [if_pos rfl] at this
  exact this
theorem add_shift (acc k c : Nat) (h : acc + c * 128 ^ k < 18446744073709551616) :
    IntKind.u64.wrap ((acc : Int) + IntKind.u64.wrap ((c : Int) * 2 ^ (7 * k))) = ((acc + c * 128 ^ k : Nat) : Int) := by
  have e : ((c : Int) * 2 ^ (7 * k)) = ((c * 128 ^ k : Nat) : Int) := by
    have h2 : ((128 ^ k : Nat) : Int) = 2 ^ (7 * k) := by rw [show (128 : Nat) = 2 ^ 7 from rfl, ← Nat.pow_mul]; simp
    rw [← h2]; simp
  rw [e, IntKind.wrap_u64, IntKind.wrap_u64, Int.emod_eq_of_lt (by omega) (by omega), Int.emod_eq_of_lt (by omega) (by omega)]
  rfl
set_option maxHeartbeats 2000000 in
set_option maxRecDepth 100000 in
theorem rrNum_ok (w : World) (b : Nat) (l : List UInt8) (h : RRd w b l 0) :
    Calls Try.prog 69 #[.pointer (some ⟨b, 0, none⟩)] w fun r w' => r = .returned (.int .u64 (numD 0 0 l).1) ∧ RRd w' b (numD 0 0 l).2.1 (numD 0 0 l).2.2 ∧ One b w w' := by
  go_enter Try.func69, Try.ntmps69
  go_wp2_with fail
  go_loopw [3, 4] (fun n i wr => ∃ (k acc : Nat) (l' : List UInt8), i = .int .i64 (k : Int) ∧ n = .int .u64 (acc : Int) ∧ k ≤ 9 ∧ One b w wr ∧ RRd wr b l' 0 ∧ acc < 128 ^ k ∧ numD k acc l' = numD 0 0 l) (fun _ i _ => 11 - (intOf i).toNat)
  case atStart => exact ⟨0, 0, l, rfl, rfl, by omega, One.refl _ _, h, by decide, rfl⟩
  case round =>
    clear h
    obtain ⟨k, acc, l', rfl, rfl, hk, hO, hRd, hacc, hnum⟩ := hrel
    have hacc2 : acc < 18446744073709551616 := by have := pow128_le hk; omega
    cases l' with
    | nil =>
      have HN := Lib.hid hnum
      clear hnum hacc
      go_wp2_with (go_at_call 76; (refine (rr_raw0 wr b hRd).mono ?_); rintro e w2 ⟨rfl, h2, o2⟩; obtain ⟨d0, d1, -, -⟩ := h2.cells)
      go_ret
      rw [← HN.out]
      exact ⟨rfl, h2, hO.trans o2⟩
    | cons c r =>
      obtain ⟨S1, hS1⟩ : ∃ S1, Hid (S1 = mkS [c]) := ⟨_, rfl⟩
      have hz1 : S1.size = 1 := by rw [hS1.out]; rfl
      have hx : ((S1[0]'(by omega)).toNat : Int) = c.toNat := by
        have := mkS_get [c] 0 (by rw [mkS_size]; simp)
        simp only [hS1.out, this]
        rfl
      have hc256 : c.toNat < 256 := c.toNat_lt
      rw [numD_cons] at hnum
      by_cases hbad : (k = 9 ∧ 1 < c.toNat) ∨ (0 < k ∧ c.toNat = 0)
      · rw [if_pos hbad] at hnum
        have HN := Lib.hid hnum
        clear hnum hacc
        rcases hbad with ⟨rfl, hb⟩ | ⟨hk0, hb⟩
        · go_wp2_with (first
            | (go_at_call 75; (refine (rr_fail0 w2 b _ 11 (by decide) h2).mono ?_); rintro e w3 ⟨rfl, h3, o3⟩)
            | (go_at_call 76; (refine (rr_raw1 wr b c r S1 hS1.out hRd).mono ?_); rintro e w2 ⟨rfl, h2, o2⟩; obtain ⟨d0, d1, -, -⟩ := h2.cells))
          go_ret
          rw [← HN.out]
          exact ⟨rfl, h3, (hO.trans o2).trans o3⟩
        · have hbb : ((c.toNat : Int) == 0) = true := by rw [beq_iff_eq]; omega
          have hc1 : (c.toNat : Int) ≤ 1 := by omega
          have hk9 : decide ((9 : Int) < (k : Int)) = false := by simp; omega
          go_wp2_with (first
            | (go_at_call 75; (refine (rr_fail0 w2 b _ 11 (by decide) h2).mono ?_); rintro e w3 ⟨rfl, h3, o3⟩)
            | (go_at_call 76; (refine (rr_raw1 wr b c r S1 hS1.out hRd).mono ?_); rintro e w2 ⟨rfl, h2, o2⟩; obtain ⟨d0, d1, -, -⟩ := h2.cells))
          all_goals
            go_ret
            rw [← HN.out]
            exact ⟨rfl, h3, (hO.trans o2).trans o3⟩
      · rw [if_neg hbad] at hnum
        have hk9 : decide ((9 : Int) < (k : Int)) = false := by simp; omega
        have hcs : (((k : Int) == 9) = true ∧ decide ((1 : Int) < (c.toNat : Int)) = false ∧ decide ((0 : Int) < (k : Int)) = true ∧ ((c.toNat : Int) == 0) = false) ∨ (((k : Int) == 9) = false ∧ decide ((0 : Int) < (k : Int)) = false) ∨ (((k : Int) == 9) = false ∧ decide ((0 : Int) < (k : Int)) = true ∧ ((c.toNat : Int) == 0) = false) := by
          simp only [beq_iff_eq, beq_eq_false_iff_ne, decide_eq_true_eq, decide_eq_false_iff_not]
          omega
        by_cases hlast : c.toNat < 128
        · rw [if_pos hlast] at hnum
          have HN := Lib.hid hnum
          have hm : acc + c.toNat * 128 ^ k < 18446744073709551616 := by
            rcases Nat.lt_or_ge k 9 with h9 | h9
            · have h8 := pow128_le8 (k := k) (by omega)
              have hm : c.toNat * 128 ^ k ≤ 127 * 72057594037927936 := Nat.mul_le_mul (by omega) h8
              omega
            · obtain rfl : k = 9 := by omega
              have : c.toNat ≤ 1 := by omega
              omega
          have HV := Lib.hid (add_shift acc k c.toNat hm)
          have hmod : (c.toNat : Int) % 128 = c.toNat := by omega
          clear hnum hacc hm
          rcases hcs with ⟨g1, g2, g3, g4⟩ | ⟨g1, g2⟩ | ⟨g1, g2, g3⟩
          all_goals
            go_wp2_with (go_at_call 76; (refine (rr_raw1 wr b c r S1 hS1.out hRd).mono ?_); rintro e w2 ⟨rfl, h2, o2⟩; obtain ⟨d0, d1, -, -⟩ := h2.cells)
            all_goals
              go_ret
              rw [← HN.out]
              exact ⟨ret_val (congrArg (Value.int .u64) HV.out), h2, hO.trans o2⟩
        · rw [if_neg hlast] at hnum
          have HN := Lib.hid hnum
          have hk8 : k ≤ 8 := by omega
          have hm : acc + (c.toNat - 128) * 128 ^ k < 128 ^ (k + 1) := by
            have := Nat.mul_le_mul_right (128 ^ k) (show c.toNat - 128 ≤ 127 by omega)
            rw [Nat.pow_succ]; omega
          have hm2 : acc + (c.toNat - 128) * 128 ^ k < 18446744073709551616 := by have := pow128_le (k := k + 1) (by omega); omega
          have HV := Lib.hid (add_shift acc k (c.toNat - 128) hm2)
          have HM := Lib.hid hm
          have hmod : (c.toNat : Int) % 128 = ((c.toNat - 128 : Nat) : Int) := by omega
          clear hnum hacc hm hm2
          rcases hcs with ⟨g1, g2, g3, g4⟩ | ⟨g1, g2⟩ | ⟨g1, g2, g3⟩
          · exact absurd (beq_iff_eq.1 g1) (by omega)
          all_goals
            go_wp2_with (go_at_call 76; (refine (rr_raw1 wr b c r S1 hS1.out hRd).mono ?_); rintro e w2 ⟨rfl, h2, o2⟩; obtain ⟨d0, d1, -, -⟩ := h2.cells)
            all_goals
             go_roundw
             case rel => exact ⟨k + 1, _, r, by go_num, congrArg (Value.int .u64) HV.out, by omega, hO.trans o2, h2, HM.out, HN.out⟩
             case measure => simp [intOf]; omega
theorem rrNum_any (w : World) (b : Nat) (l : List UInt8) (e : Int) (h : RRd w b l e) :
    Calls Try.prog 69 #[.pointer (some ⟨b, 0, none⟩)] w fun r w' => r = .returned (.int .u64 (numE l e).1) ∧ RRd w' b (numE l e).2.1 (numE l e).2.2 ∧ One b w w' := by
  unfold numE
  by_cases he : e = 0
  · subst he
    rw [if_pos rfl]
    exact rrNum_ok w b l h
  · rw [if_neg he]
    have hb : (e != 0) = true := bne_iff_ne.2 he
    go_enter Try.func69, Try.ntmps69
    go_wp2_with fail
    go_loopw [3, 4] (fun n i wr => i = .int .i64 0 ∧ n = .int .u64 0 ∧ wr = w) (fun _ i _ => 11 - (intOf i).toNat)
    case atStart => exact ⟨rfl, rfl, rfl⟩
    case round =>
      obtain ⟨rfl, rfl, rfl⟩ := hrel
      go_wp2_with (go_at_call 76; (refine (rr_rawE _ b l e he h).mono ?_); rintro e' w2 ⟨rfl, h2, o2⟩; obtain ⟨d0, d1, -, -⟩ := h2.cells)
      go_ret
      exact ⟨rfl, h2, o2⟩
set_option maxHeartbeats 2000000 in
set_option maxRecDepth 100000 in
theorem rrMany_any (w : World) (b : Nat) (l : List UInt8) (e least : Int) (h : RRd w b l e) (hl : l.length ≤ 4611686018427387904) (h0 : 1 ≤ least) (h1 : least ≤ 1000) :
    Calls Try.prog 68 #[.pointer (some ⟨b, 0, none⟩), .int .i64 least] w fun r w' => r = .returned (.int .i64 (manyE l e least).1) ∧ RRd w' b (manyE l e least).2.1 (manyE l e least).2.2 ∧ One b w w' := by
  have hN := rrNum_any w b l e h
  have hle := numE_len l e
  have hlt := numE_lt l e
  have hls : ¬ (least < 1) := by omega
  unfold manyE
  obtain ⟨q, hq⟩ : ∃ q, numE l e = q := ⟨_, rfl⟩
  rw [hq] at hN hle hlt ⊢
  obtain ⟨n, r, e2⟩ := q
  simp only at hN hle hlt ⊢
  by_cases he : e2 = 0
  · subst he
    rw [if_pos rfl]
    obtain ⟨D, hD⟩ : ∃ D, Hid (D = r.length / (max least 1).toNat) := ⟨_, rfl⟩
    rw [← hD.out]
    have hDr : D ≤ r.length := by rw [hD.out]; exact Nat.div_le_self _ _
    have hw : ∀ x : Int, x = D → IntKind.u64.wrap (wrap64 x) = (D : Int) := fun x hx => by
        rw [hx, IntKind.wrap_u64]; unfold wrap64; omega
    have hwD := hw (((mkS r).size : Int) / least) (by
            obtain ⟨m, rfl⟩ := Int.eq_ofNat_of_zero_le (show 0 ≤ least by omega)
            rw [mkS_size, hD.out, show (max (m : Int) 1).toNat = m by omega]; omega)
    have hl0 : (least == 0) = false := by rw [beq_eq_false_iff_ne]; omega
    clear hw hq
    by_cases hcmp : D < n
    · rw [if_pos hcmp]
      have hci : (D : Int) < (n : Int) := by omega
      go_enter Try.func68, Try.ntmps68
      go_wp2_with (first
        | (go_at_call 75; (refine (rr_fail0 w1 b _ 10 (by decide) h1).mono ?_); rintro e w2 ⟨rfl, h2, o2⟩; obtain ⟨d0, d1, -, -⟩ := RRd.cells h2)
        | (go_at_call 69; (refine hN.mono ?_); rintro e w1 ⟨rfl, h1, o1⟩; obtain ⟨c0, c1, z0, z1⟩ := RRd.cells h1))
      go_ret
      exact ⟨rfl, h2, o1.trans o2⟩
    · rw [if_neg hcmp]
      have hci : ¬ ((D : Int) < (n : Int)) := by omega
      have hw64 : wrap64 (n : Int) = n := by unfold wrap64; omega
      go_enter Try.func68, Try.ntmps68
      go_wp2_with (go_at_call 69; (refine hN.mono ?_); rintro e w1 ⟨rfl, h1, o1⟩; obtain ⟨c0, c1, z0, z1⟩ := RRd.cells h1)
      go_ret
      exact ⟨rfl, h1, o1⟩
  · rw [if_neg he]
    have hb : (e2 == 0) = false := beq_eq_false_iff_ne.2 he
    have hb2 : (e2 != 0) = true := bne_iff_ne.2 he
    clear hq
    go_enter Try.func68, Try.ntmps68
    go_wp2_with (go_at_call 69; (refine hN.mono ?_); rintro e w1 ⟨rfl, h1, o1⟩; obtain ⟨c0, c1, z0, z1⟩ := RRd.cells h1)
    go_ret
    exact ⟨rfl, h1, o1⟩
end Go.Proofs.Ytaglginhaofgeaa
