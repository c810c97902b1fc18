/- FilesFirm: the plain law. -/
import Derived.Test.YtcfbbembggnanaaFilFull
namespace Go.Proofs.Ytcfbbembggnanaa
open Go.RowKit Go.Maps
theorem num_of {A : Option Addr} {w : World} {N : Nat} {xs : List Int} (h : ARow w N A (xs.map (Value.int .i64))) (k : Nat) (hk : k < xs.length) : ∃ blk o, A = some ⟨blk, o, none⟩ ∧ blk < N ∧ w.cell? ⟨blk, o + k, none⟩ = some (.int .i64 xs[k]) := by
  rcases h with h | ⟨blk, o, hA, hb, hr⟩
  · simp at h; subst h; simp at hk
  · exact ⟨blk, o, hA, hb, hr k _ (by simp [hk])⟩
def kf : Key := ⟨[102], by decide⟩
/-- One file f. -/
def oneS (st : Int) (wh : List UInt8) (n : Nat) : FS := ⟨16777216, 0, st, true, [(kf, ⟨wh, n⟩)]⟩
def noneS : FS := ⟨16777216, 0, 0, true, []⟩
theorem ask_f (x : Key) (h : nameB x.1 = true) : askE true [x] = 0 := by rw [ask1, h]; rfl
theorem app_f (st : Int) (wh pc : List UInt8) (n : Nat) (h : wh.length + pc.length ≤ 1048576) : appS (oneS st wh n) kf [pc].flatten = (0, oneS (st + 1) (wh ++ pc) n) := by
  unfold appS oneS
  rw [if_neg (by rw [ask_f kf (by decide)]; simp)]
  have hf : fullP 16777216 [(kf, (⟨wh, n⟩ : Fl))] kf [pc].flatten.length = false := by
    unfold fullP
    simp [usedP, getL]
    omega
  simp only [hf]
  simp [appP, leftE]
theorem app_none (pc : List UInt8) (h : pc.length ≤ 1048576) : appS noneS kf [pc].flatten = (0, oneS 1 pc 0) := by
  unfold appS noneS oneS
  rw [if_neg (by rw [ask_f kf (by decide)]; simp)]
  have hf : fullP 16777216 [] kf [pc].flatten.length = false := by
    unfold fullP
    simp [usedP, getL]
    omega
  simp only [hf]
  simp [appP, leftE]
theorem get_f (fl : Fl) : getL [(kf, fl)] kf = some fl := by simp [getL]
theorem there_f (fl : Fl) : thereP true [(kf, fl)] kf = 0 := by
  unfold thereP
  rw [if_neg (by rw [ask_f kf (by decide)]; simp), get_f]
  rfl
theorem read_f (fl : Fl) : readP true [(kf, fl)] kf = fl.bs := by
  unfold readP
  rw [there_f, if_pos rfl, get_f]
  rfl
theorem sync_f (st : Int) (wh : List UInt8) (n : Nat) : eachP firmP [kf] (oneS st wh n) = (0, oneS (st + 1) wh wh.length) := by
  unfold eachP oneS
  simp only [there_f]
  simp [eachP, firmP, leftE]
theorem crash_f (wh : List UInt8) (n : Nat) (p : Int) (hn : n ≤ wh.length) : ∃ m, n ≤ m ∧ m ≤ wh.length ∧ crashP [kf] [(kf, (⟨wh, n⟩ : Fl))] [p] = [(kf, ⟨wh.take m, m⟩)] := by
  have hN := loseN_le (fl := ⟨wh, n⟩) (pkH [p]) hn
  by_cases h : n < wh.length
  · refine ⟨loseN ⟨wh, n⟩ (pkH [p]), by unfold loseN; simp, hN, ?_⟩
    simp [crashP, loseP, loseFl, h]
  · refine ⟨wh.length, hn, Nat.le_refl _, ?_⟩
    simp [crashP, loseP, loseFl, h]
/-- Between two rounds. -/
structure FirmSt (k : Nat) (S : FS) (f wh : List UInt8) : Prop where
  len : wh.length ≤ 1048576
  le : f.length ≤ wh.length
  is : (∃ st, S = oneS st wh f.length ∧ 0 ≤ st ∧ st ≤ 2 * k) ∨ (S = noneS ∧ wh = [] ∧ f = [])
theorem FirmSt.app {k : Nat} {S : FS} {f wh : List UInt8} (h : FirmSt k S f wh) (pc : List UInt8) (hp : wh.length + pc.length ≤ 1048576) : ∃ st, appS S kf [pc].flatten = (0, oneS st (wh ++ pc) f.length) ∧ 0 ≤ st ∧ st ≤ 2 * k + 1 := by
  rcases h.is with ⟨st, rfl, h1, h2⟩ | ⟨rfl, rfl, rfl⟩
  · exact ⟨st + 1, app_f st wh pc _ hp, by omega, by omega⟩
  · exact ⟨1, app_none pc (by simpa using hp), by omega, by omega⟩
theorem FirmSt.ok {k : Nat} {S : FS} {f wh : List UInt8} (h : FirmSt k S f wh) (hk : k ≤ 60) : FOk S := by
  have h1 := h.len
  have h2 := h.le
  rcases h.is with ⟨st, rfl, h3, h4⟩ | ⟨rfl, rfl, rfl⟩
  · exact ⟨by simp [oneS], by simp [oneS], ⟨h3, by show st ≤ _; omega⟩, by simp [oneS, usedP]; omega, by simp [oneS], fun d hd => by simp [oneS] at hd; subst hd; exact ⟨h2, by show wh.length ≤ _; omega⟩⟩
  · exact ⟨by simp [noneS], by simp [noneS], by simp [noneS], by simp [noneS, usedP], by simp [noneS], by simp [noneS]⟩
theorem one_ok {st : Int} {wh : List UInt8} {n : Nat} (h1 : wh.length ≤ 1048576) (h2 : n ≤ wh.length) (h3 : 0 ≤ st) (h4 : st ≤ 1000) : FOk (oneS st wh n) :=
  ⟨by simp [oneS], by simp [oneS], ⟨h3, by show st ≤ _; omega⟩, by simp [oneS, usedP]; omega, by simp [oneS], fun d hd => by simp [oneS] at hd; subst hd; exact ⟨h2, by show wh.length ≤ _; omega⟩⟩
end Go.Proofs.Ytcfbbembggnanaa
