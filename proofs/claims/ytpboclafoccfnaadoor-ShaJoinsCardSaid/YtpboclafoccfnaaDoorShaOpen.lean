/- A slice of strings that is handed in, opened: as parts. -/
import Derived.Test.YtpboclafoccfnaaDoorShaLaid
import Derived.SliceStrings
namespace Go.Proofs.YtpboclafoccfnaaDoor
open Go.ChangeShapes Go.WideShapes Go.ChangeAt Go.RowKit Go.ChangeMaps
open Sha
theorem spot_none {w : World} {a : Addr} {v : Value} (h : w.cell? a = some v) : a.spot = none := by
  unfold World.cell? at h
  split at h
  · split at h
    · cases h
    · simpa using ‹¬ a.spot.isSome = true›
  · cases h
theorem weights_slice {H : Type} {P : Program} {t e : TypeId} {elems spare : List (DataW H)} (ht : P.underlying t = some (.slice e)) (h : ((DataW.slice elems spare).weights P t).all (· ≤ reachBytes) = true) : elems.length * P.bytesOf e ≤ reachBytes := by
  unfold DataW.weights at h
  rw [ht] at h
  simp only [List.all_cons, Bool.and_eq_true, decide_eq_true_eq] at h
  exact Nat.le_trans (Nat.mul_le_mul_right _ (Nat.le_add_right _ _)) h.1
theorem weights_strs {H : Type} {P : Program} {e : TypeId} : ∀ (l : List ByteArray), (DataW.weightsAll P e (strs (H := H) l)).all (· ≤ reachBytes) = true → ∀ p ∈ l, p.size ≤ reachBytes
  | [], _, p, hp => by cases hp
  | q :: l, h, p, hp => by
    unfold strs at h
    rw [List.map_cons, DataW.weightsAll, List.all_append, Bool.and_eq_true] at h
    rcases List.mem_cons.1 hp with rfl | hp
    · have := h.1
      simp only [DataW.weights, List.all_cons, List.all_nil, Bool.and_true, decide_eq_true_eq, Array.length_toList] at this
      exact this
    · exact weights_strs l h.2 p hp
theorem weights_elems {H : Type} {P : Program} {t e : TypeId} {elems spare : List (DataW H)} (ht : P.underlying t = some (.slice e)) (h : ((DataW.slice elems spare).weights P t).all (· ≤ reachBytes) = true) : (DataW.weightsAll P e elems).all (· ≤ reachBytes) = true := by
  unfold DataW.weights at h
  rw [ht] at h
  simp only [List.all_cons, List.all_append, Bool.and_eq_true] at h
  exact h.2.1
theorem parts_of {H : Type} {enc : TypeId × Value → H} {P : Program} {W : World} {base : Nat} {t e : TypeId} {v : Value} {d : DataW H} {ps : List MemPlace} (ht : P.underlying t = some (.slice e)) (he : P.underlying e = some .string) (hc : P.cellsOf e = 1)
    (hv : Value.okWide P W .any base t v) (h : DataW.Trod enc P W 0 (fun _ => true) true t v d ps) (hwt : (d.weights P t).all (· ≤ reachBytes) = true) :
    ∃ (A : Option Addr) (c : Nat) (l : List ByteArray), v = .slice A l.length c ∧ Parts W W.heap.size A l ∧ (∀ p ∈ l, p.size ≤ reachBytes) ∧ l.length * P.bytesOf e ≤ reachBytes := by
  obtain ⟨A, n, c, rfl⟩ := okWide_slice ht hv
  obtain ⟨fuel, hf⟩ := h
  rcases open_strings ht he hc hf with ⟨h1, hx⟩ | ⟨a, len, cap, ss, h1, _, hlc, _, hss, hx, hcell, hsz⟩
  · simp only [Value.cells, List.cons.injEq, Value.slice.injEq, and_true] at h1
    obtain ⟨rfl, rfl, rfl⟩ := h1
    exact ⟨none, 0, [], rfl, .inl rfl, by simp, by simp [reachBytes]⟩
  · simp only [Value.cells, List.cons.injEq, Value.slice.injEq, and_true] at h1
    obtain ⟨rfl, rfl, rfl⟩ := h1
    simp only [if_true] at hss
    simp only [Prod.mk.injEq] at hx
    rw [hx.1] at hwt
    have hl : (ss.take n).length = n := by rw [List.length_take]; omega
    have hb := weights_slice ht hwt
    rw [show (strs (H := H) (ss.take n)).length = n by simp only [strs, List.length_map]; exact hl] at hb
    refine ⟨some a, c, ss.take n, by rw [hl], ?_, weights_strs _ (weights_elems ht hwt), by rw [hl]; exact hb⟩
    by_cases h0 : n = 0
    · exact .inl (by rw [h0]; rfl)
    · have hlt0 : 0 < ss.length := by omega
      have hs0 := hcell 0 hlt0
      have hsp : a.spot = none := spot_none (a := a.add 0) hs0
      have hblk : a.block < W.heap.size := World.block_lt_of_cell? W _ hs0
      obtain ⟨b, o, sp⟩ := a
      simp only at hsp
      subst hsp
      refine .inr ⟨b, o, rfl, hblk, Nat.ne_of_lt hblk, fun k hk => ?_⟩
      have hk' : k < ss.length := by rw [List.length_take] at hk; omega
      have := hcell k hk'
      rw [List.getElem_take]
      rw [List.getD_eq_getElem?_getD, List.getElem?_eq_getElem hk', Addr.add_mid] at this
      exact this
theorem weights_one {H : Type} {P : Program} {t : TypeId} {ts : List TypeId} {d : DataW H} (h : (DataW.weightsEach P (t :: ts) [d]).all (· ≤ reachBytes) = true) : (d.weights P t).all (· ≤ reachBytes) = true := by
  have e : DataW.weightsEach P (t :: ts) [d] = d.weights P t := by
    unfold DataW.weightsEach
    have : DataW.weightsEach P ts ([] : List (DataW H)) = [] := by cases ts <;> rfl
    rw [this, List.append_nil]
  rwa [e] at h
theorem cells9 : Tryd.prog.cellsOf 9 = 1 := by kernel_rfl
theorem bytes9 : Tryd.prog.bytesOf 9 = 16 := by kernel_rfl
end Go.Proofs.YtpboclafoccfnaaDoor
