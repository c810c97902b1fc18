/- The reference's Room and IsName. -/
import Derived.Test.YtcfbbembggnanaaFilAwake
namespace Go.Proofs.Ytcfbbembggnanaa
open Go.RowKit Go.Maps
set_option maxHeartbeats 1000000 in
theorem room_any (w : World) (n : Int) : Calls Try.prog 16 #[.int .i64 n] w fun e w' => e = .returned (.int .i64 (roomE n)) ∧ w = w' := by
  go_enter Try.func16, Try.ntmps16
  go_wp2
  all_goals
    go_ret
    refine ⟨?_, rfl⟩
    unfold roomE
    repeat' split
    all_goals first
      | rfl
      | omega
      | (congr 2; omega)
def okN (n : Nat) : Bool := decide (n = 45 ∨ n = 46 ∨ (48 ≤ n ∧ n ≤ 57) ∨ (97 ≤ n ∧ n ≤ 122))
theorem okB_nat : ∀ n : Nat, n < 256 → okB (UInt8.ofNat n) = okN n := by decide +kernel
theorem okB_eq (c : UInt8) : okB c = okN c.toNat := by
  have := okB_nat c.toNat c.toNat_lt
  rwa [UInt8.ofNat_toNat] at this
set_option maxRecDepth 100000 in
set_option maxHeartbeats 4000000 in
theorem isName_any (w : World) (x : Key) : Calls Try.prog 17 #[KV x] w fun e w' => e = .returned (.bool (nameB x.1)) ∧ w = w' := by
  obtain ⟨S, hS⟩ : ∃ S : ByteArray, Hid (S.data.toList = x.1) := ⟨⟨x.1.toArray⟩, rfl⟩
  have hKV : KV x = .string S := by unfold KV encStr; congr 1; apply ByteArray.ext; apply Array.ext'; rw [hS.out]
  have hsz0 : Hid (S.size = x.1.length) := by refine Lib.hid ?_; rw [← hS.out, Array.length_toList]; rfl
  have hmx : S.size ≤ 9223372036854775807 := by rw [hsz0.out]; exact x.2
  rw [hKV]
  go_enter Try.func17, Try.ntmps17
  go_wp2
  go_loopw [3] (fun i wr => ∃ k : Nat, k ≤ S.size ∧ i = .int .i64 (k : Int) ∧ Hid (∀ j (hj : j < x.1.length), j < k → okB x.1[j] = true) ∧ w = wr) (fun i _ => S.size - (intOf i).toNat)
  case atStart => exact ⟨0, by omega, rfl, fun _ _ h => absurd h (by omega), rfl⟩
  case round =>
    obtain ⟨k, hk, rfl, hall, rfl⟩ := hrel
    by_cases hlt : k < S.size
    · have hki : (k : Int) < S.size := by omega
      have b0 : (0 : Int) ≤ k := by omega
      have hxk : k < x.1.length := by rw [← hsz0.out]; exact hlt
      obtain ⟨ch, hch⟩ : ∃ ch, S[k] = ch := ⟨_, rfl⟩
      have hch2 : x.1[k] = ch := by
        rw [← hch]
        have : x.1[k]? = some S[k] := by rw [← hS.out, Array.getElem?_toList]; exact Array.getElem?_eq_getElem hlt
        rw [List.getElem?_eq_getElem hxk] at this
        exact Option.some.inj this
      have hok : okB x.1[k] = okN ch.toNat := by rw [hch2, okB_eq]
      have hnext : okN ch.toNat = true → Hid (∀ j (hj : j < x.1.length), j < k + 1 → okB x.1[j] = true) := fun h => Lib.hid fun j hj hjk => by
        rcases Nat.lt_or_ge j k with h1 | h1
        · exact hall.out j hj h1
        · obtain rfl : j = k := by omega
          rw [hok]; exact h
      have hbad : okN ch.toNat = false → nameB x.1 = false := fun h => nameB_bad k hxk (by rw [hok]; exact h)
      clear hok hall hch2
      obtain ⟨z, hz⟩ : ∃ z : Nat, ch.toNat = z := ⟨_, rfl⟩
      rw [hz] at hnext hbad
      have hzc : (ch.toNat : Int) = (z : Int) := by rw [hz]
      replace hnext : Hid (okN z = true → Hid (∀ j (hj : j < x.1.length), j < k + 1 → okB x.1[j] = true)) := hnext
      replace hbad : Hid (okN z = false → nameB x.1 = false) := hbad
      clear hz
      have hcase : (z = 45) ∨ (z = 46) ∨ (48 ≤ z ∧ z ≤ 57) ∨ (97 ≤ z ∧ z ≤ 122) ∨ (z < 45) ∨ (z = 47) ∨ (57 < z ∧ z < 97) ∨ (122 < z) := by omega
      rcases hcase with hc | hc | hc | hc | hc | hc | hc | hc
      · have hg := hnext.out (by unfold okN; exact decide_eq_true (by omega))
        clear hbad hnext
        subst hc
        go_wp2
        exact ⟨⟨k + 1, by omega, by go_num, hg, by trivial⟩, by simp [intOf]; omega⟩
      · have hg := hnext.out (by unfold okN; exact decide_eq_true (by omega))
        clear hbad hnext
        subst hc
        go_wp2
        exact ⟨⟨k + 1, by omega, by go_num, hg, by trivial⟩, by simp [intOf]; omega⟩
      · have hg := hnext.out (by unfold okN; exact decide_eq_true (by omega))
        clear hbad hnext
        have t1 : decide ((z : Int) < 97) = true := by simp; omega
        have n1 : decide (z < 97) = true := by simp; omega
        have t2 : decide ((z : Int) > 122) = false := by simp; omega
        have n2 : decide (122 < z) = false := by simp; omega
        have m2 : decide ((122 : Int) < (z : Int)) = false := by simp; omega
        have t3 : decide ((z : Int) < 48) = false := by simp; omega
        have n3 : decide (z < 48) = false := by simp; omega
        have t4 : decide ((z : Int) > 57) = false := by simp; omega
        have n4 : decide (57 < z) = false := by simp; omega
        have m4 : decide ((57 : Int) < (z : Int)) = false := by simp; omega
        have t5 : ((z : Int) != 46) = true := by simp; omega
        have t6 : ((z : Int) != 45) = true := by simp; omega
        clear hc
        go_wp2
        exact ⟨⟨k + 1, by omega, by go_num, hg, by trivial⟩, by simp [intOf]; omega⟩
      · have hg := hnext.out (by unfold okN; exact decide_eq_true (by omega))
        clear hbad hnext
        have t1 : decide ((z : Int) < 97) = false := by simp; omega
        have n1 : decide (z < 97) = false := by simp; omega
        have t2 : decide ((z : Int) > 122) = false := by simp; omega
        have n2 : decide (122 < z) = false := by simp; omega
        have m2 : decide ((122 : Int) < (z : Int)) = false := by simp; omega
        have t3 : decide ((z : Int) < 48) = false := by simp; omega
        have n3 : decide (z < 48) = false := by simp; omega
        have t4 : decide ((z : Int) > 57) = true := by simp; omega
        have n4 : decide (57 < z) = true := by simp; omega
        have m4 : decide ((57 : Int) < (z : Int)) = true := by simp; omega
        have t5 : ((z : Int) != 46) = true := by simp; omega
        have t6 : ((z : Int) != 45) = true := by simp; omega
        clear hc
        go_wp2
        exact ⟨⟨k + 1, by omega, by go_num, hg, by trivial⟩, by simp [intOf]; omega⟩
      · have hb := hbad.out (by unfold okN; exact decide_eq_false (by omega))
        clear hbad hnext
        have t1 : decide ((z : Int) < 97) = true := by simp; omega
        have n1 : decide (z < 97) = true := by simp; omega
        have t2 : decide ((z : Int) > 122) = false := by simp; omega
        have n2 : decide (122 < z) = false := by simp; omega
        have m2 : decide ((122 : Int) < (z : Int)) = false := by simp; omega
        have t3 : decide ((z : Int) < 48) = true := by simp; omega
        have n3 : decide (z < 48) = true := by simp; omega
        have t4 : decide ((z : Int) > 57) = false := by simp; omega
        have n4 : decide (57 < z) = false := by simp; omega
        have m4 : decide ((57 : Int) < (z : Int)) = false := by simp; omega
        have t5 : ((z : Int) != 46) = true := by simp; omega
        have t6 : ((z : Int) != 45) = true := by simp; omega
        go_wp2
        go_ret
        exact ⟨by rw [hb]; rfl, rfl⟩
      · have hb := hbad.out (by unfold okN; exact decide_eq_false (by omega))
        clear hbad hnext
        subst hc
        go_wp2
        go_ret
        exact ⟨by rw [hb]; rfl, rfl⟩
      · have hb := hbad.out (by unfold okN; exact decide_eq_false (by omega))
        clear hbad hnext
        have t1 : decide ((z : Int) < 97) = true := by simp; omega
        have n1 : decide (z < 97) = true := by simp; omega
        have t2 : decide ((z : Int) > 122) = false := by simp; omega
        have n2 : decide (122 < z) = false := by simp; omega
        have m2 : decide ((122 : Int) < (z : Int)) = false := by simp; omega
        have t3 : decide ((z : Int) < 48) = false := by simp; omega
        have n3 : decide (z < 48) = false := by simp; omega
        have t4 : decide ((z : Int) > 57) = true := by simp; omega
        have n4 : decide (57 < z) = true := by simp; omega
        have m4 : decide ((57 : Int) < (z : Int)) = true := by simp; omega
        have t5 : ((z : Int) != 46) = true := by simp; omega
        have t6 : ((z : Int) != 45) = true := by simp; omega
        go_wp2
        go_ret
        exact ⟨by rw [hb]; rfl, rfl⟩
      · have hb := hbad.out (by unfold okN; exact decide_eq_false (by omega))
        clear hbad hnext
        have t1 : decide ((z : Int) < 97) = false := by simp; omega
        have n1 : decide (z < 97) = false := by simp; omega
        have t2 : decide ((z : Int) > 122) = true := by simp; omega
        have n2 : decide (122 < z) = true := by simp; omega
        have m2 : decide ((122 : Int) < (z : Int)) = true := by simp; omega
        have t3 : decide ((z : Int) < 48) = false := by simp; omega
        have n3 : decide (z < 48) = false := by simp; omega
        have t4 : decide ((z : Int) > 57) = true := by simp; omega
        have n4 : decide (57 < z) = true := by simp; omega
        have m4 : decide ((57 : Int) < (z : Int)) = true := by simp; omega
        have t5 : ((z : Int) != 46) = true := by simp; omega
        have t6 : ((z : Int) != 45) = true := by simp; omega
        go_wp2
        go_ret
        exact ⟨by rw [hb]; rfl, rfl⟩
    · obtain rfl : k = S.size := by omega
      have hgood := nameB_good (l := x.1) (fun j hj => hall.out j hj (by rw [hsz0.out]; exact hj))
      have hsz := hsz0.out
      have hb : nameB x.1 = (decide (1 ≤ S.size) && decide (S.size ≤ 32)) := by
        rw [hgood, ← hsz]
        congr 1
        cases hx : x.1 with
        | nil => rw [hx, List.length_nil] at hsz; simp [hsz]
        | cons a l => rw [hx, List.length_cons] at hsz; simp; omega
      by_cases h0 : 1 ≤ S.size
      · obtain ⟨b, hbb⟩ : ∃ b, decide (S.size ≤ 32) = b := ⟨_, rfl⟩
        have hb4 : decide ((S.size : Int) ≤ 32) = b := by rw [← hbb]; congr 1; simp; omega
        have h1 : decide ((S.size : Int) ≥ 1) = true := by simp; omega
        have h2 : decide ((1 : Int) ≤ (S.size : Int)) = true := h1
        rw [hbb, decide_eq_true h0, Bool.true_and] at hb
        clear hgood hsz h0
        go_wp2
        go_ret
        exact ⟨by rw [hb]; rfl, rfl⟩
      · have h1 : decide ((S.size : Int) ≥ 1) = false := by simp; omega
        have h2 : decide ((1 : Int) ≤ (S.size : Int)) = false := h1
        rw [decide_eq_false h0, Bool.false_and] at hb
        clear hgood hsz h0
        go_wp2
        go_ret
        exact ⟨by rw [hb]; rfl, rfl⟩
end Go.Proofs.Ytcfbbembggnanaa
