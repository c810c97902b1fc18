/- isName; slices.ContainsFunc at names. -/
import Derived.Test.YtcfbbembggnanaaKeys
import Derived.OwnWalk
import Derived.Lib.Bytealg
import Derived.BigQuiet
namespace Go.Proofs.Ytcfbbembggnanaa
open Go.RowKit Go.Maps
def nameL : List UInt8 := [97, 98, 99, 100, 101, 102, 103, 104, 105, 106, 107, 108, 109, 110, 111, 112, 113, 114, 115, 116, 117, 118, 119, 120, 121, 122, 48, 49, 50, 51, 52, 53, 54, 55, 56, 57, 46, 45]
def okB (c : UInt8) : Bool := decide (0 ≤ Lib.indexByte nameL c)
/-- A name that may be. -/
def nameB (l : List UInt8) : Bool := l.all okB && (decide (l ≠ []) && decide (l.length ≤ 32))
theorem slIdx_any (w : World) (s : ByteArray) (c : Int) :
    Calls Try.prog 58 #[.string s, .int .u8 c] w fun e w' => e = .returned (.int .i64 (Lib.indexByte s.data.toList c.toNat.toUInt8)) ∧ w' = w := by
  go_enter Try.func58, Try.ntmps58
  go_wp2
  rw [run_callFunc_extern Try.func72 (by kernel_rfl) (by kernel_rfl) (by kernel_rfl) (e := Extern.BytealgIndexByte.indexByte) (by kernel_rfl), Lib.run_indexByteString]
  simp only [Result.andThen]
  rw [Oper.upon_value]
  go_wp2
  go_ret
  exact ⟨rfl, rfl⟩
theorem idx_any (w : World) (c : UInt8) :
    Calls Try.prog 52 #[.string ⟨nameL.toArray⟩, .int .u8 (c.toNat : Int)] w fun e w' => e = .returned (.int .i64 (Lib.indexByte nameL c)) ∧ w = w' := by
  have h := fun w => slIdx_any w ⟨nameL.toArray⟩ (c.toNat : Int)
  have hc : ((c.toNat : Int)).toNat.toUInt8 = c := by simp
  simp only [hc] at h
  obtain ⟨z, hz⟩ : ∃ z, Lib.indexByte (ByteArray.mk nameL.toArray).data.toList c = z := ⟨_, rfl⟩
  have hz2 : Lib.indexByte nameL c = z := hz
  rw [hz2]
  simp only [hz] at h
  go_enter Try.func52, Try.ntmps52
  go_wp2_with (go_at_call 58; (refine (h _).mono ?_); rintro e w' ⟨rfl, rfl⟩)
  go_ret
  exact ⟨rfl, rfl⟩
theorem nameB_bad {l : List UInt8} (k : Nat) (hk : k < l.length) (h : okB l[k] = false) : nameB l = false := by
  unfold nameB
  have : l.all okB = false := by
    rw [List.all_eq_false]
    exact ⟨l[k], List.getElem_mem _, by simp [h]⟩
  rw [this]
  rfl
theorem nameB_good {l : List UInt8} (h : ∀ j (hj : j < l.length), okB l[j] = true) : nameB l = (decide (l ≠ []) && decide (l.length ≤ 32)) := by
  unfold nameB
  have : l.all okB = true := by
    rw [List.all_eq_true]
    intro x hx
    obtain ⟨j, hj, rfl⟩ := List.getElem_of_mem hx
    exact h j hj
  rw [this]
  rfl
set_option maxHeartbeats 1000000 in
theorem name_any (w : World) (x : Key) : Calls Try.prog 43 #[KV x] w fun e w' => e = .returned (.bool (nameB x.1)) ∧ w = w' := by
  obtain ⟨S, hS⟩ : ∃ S : ByteArray, Hid (S.data.toList = x.1) := ⟨⟨x.1.toArray⟩, rfl⟩
  have hKV : KV x = .string S := by unfold KV encStr; congr 1; apply ByteArray.ext; apply Array.ext'; rw [hS.out]
  have hsz0 : Hid (S.size = x.1.length) := by refine Lib.hid ?_; rw [← hS.out, Array.length_toList]; rfl
  have hmx : S.size ≤ 9223372036854775807 := by rw [hsz0.out]; exact x.2
  rw [hKV]
  go_enter Try.func43, Try.ntmps43
  go_wp2
  go_loopw [6] (fun i wr => ∃ k : Nat, k ≤ S.size ∧ i = .int .i64 (k : Int) ∧ Hid (∀ j (hj : j < x.1.length), j < k → okB x.1[j] = true) ∧ w = wr) (fun i _ => S.size - (intOf i).toNat)
  case atStart => exact ⟨0, by omega, rfl, fun _ _ h => absurd h (by omega), rfl⟩
  case round =>
    obtain ⟨k, hk, rfl, hall, rfl⟩ := hrel
    by_cases hlt : k < S.size
    · have hki : (k : Int) < S.size := by omega
      have b0 : (0 : Int) ≤ k := by omega
      have hxk : k < x.1.length := by rw [← hsz0.out]; exact hlt
      obtain ⟨ch, hch⟩ : ∃ ch, S[k] = ch := ⟨_, rfl⟩
      have hch2 : x.1[k] = ch := by
        rw [← hch]
        have : x.1[k]? = some S[k] := by rw [← hS.out, Array.getElem?_toList]; exact Array.getElem?_eq_getElem hlt
        rw [List.getElem?_eq_getElem hxk] at this
        exact Option.some.inj this
      obtain ⟨z, hz⟩ : ∃ z, Lib.indexByte nameL ch = z := ⟨_, rfl⟩
      have hc := fun W => idx_any W ch
      simp only [hz] at hc
      have hok : okB x.1[k] = decide (0 ≤ z) := by rw [hch2]; unfold okB; rw [hz]
      clear hz
      by_cases hz0 : z < 0
      · have hzd : decide (z < 0) = true := decide_eq_true hz0
        have hbad : nameB x.1 = false := nameB_bad k hxk (by rw [hok]; simp; omega)
        clear hok hall hch2
        go_wp2_with (go_at_call 52; (refine (hc _).mono ?_); rintro e w' ⟨rfl, rfl⟩)
        go_ret
        exact ⟨by rw [hbad]; rfl, rfl⟩
      · have hzd : decide (z < 0) = false := decide_eq_false hz0
        go_wp2_with (go_at_call 52; (refine (hc _).mono ?_); rintro e w' ⟨rfl, rfl⟩)
        refine ⟨⟨k + 1, by omega, by go_num, fun j hj hjk => ?_, by trivial⟩, by simp [intOf]; omega⟩
        rcases Nat.lt_or_ge j k with h1 | h1
        · exact hall.out j hj h1
        · obtain rfl : j = k := by omega
          rw [hok]; simp; omega
    · obtain rfl : k = S.size := by omega
      have hgood := nameB_good (l := x.1) (fun j hj => hall.out j hj (by rw [hsz0.out]; exact hj))
      have hsz := hsz0.out
      by_cases h0 : S.size = 0
      · have hb1 : (S.toList == []) = true := by
          rw [Lib.toList_data, hS.out, List.eq_nil_of_length_eq_zero (by omega : x.1.length = 0)]; rfl
        have hb2 : nameB x.1 = false := by rw [hgood, List.eq_nil_of_length_eq_zero (by omega : x.1.length = 0)]; rfl
        clear hsz hgood
        go_wp2
        go_ret
        exact ⟨by rw [hb2]; rfl, rfl⟩
      · have hb1 : (S.toList == []) = false := by
          rw [Lib.toList_data, hS.out]
          cases hx : x.1 with
          | nil => rw [hx, List.length_nil] at hsz; omega
          | cons a l => rfl
        obtain ⟨b, hb⟩ : ∃ b, decide (x.1.length ≤ 32) = b := ⟨_, rfl⟩
        have hb2 : nameB x.1 = b := by
          rw [hgood, hb]
          have : x.1 ≠ [] := fun e => by rw [e, List.length_nil] at hsz; omega
          simp [this]
        have hb3 : decide (S.size ≤ 32) = b := by rw [hsz]; exact hb
        have hb4 : decide ((S.size : Int) ≤ 32) = b := by rw [hsz, ← hb]; congr 1; simp; omega
        clear hgood hb hsz
        go_wp2
        go_ret
        exact ⟨by rw [hb2]; rfl, rfl⟩
end Go.Proofs.Ytcfbbembggnanaa
