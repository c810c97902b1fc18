/- Two arrays of 32 bytes that are one and the same are equal by Go's ==; what Text returns, as one named string. -/
import Derived.Test.YtpboclafoccfnaaDoorShaAwake
import Derived.DeepKeys
namespace Go.Proofs.YtpboclafoccfnaaDoor
open Go.RowKit
open Sha
/-- A list of integers, cell by cell. -/
theorem eqItems_same {P : Program} (w : World) (d : Nat) {e : TypeId} {k q : IntKind} (hu : P.underlying e = some (.int k)) (xs : List Int) : ∀ is : List Nat, (∀ i ∈ is, i < xs.length) →
    (Op.eqItems (d + 1) e 1 (xs.map (Value.int q)).toArray (xs.map (Value.int q)).toArray is).run P w = .ok true w
  | [], _ => by simp [Op.eqItems]
  | i :: is, h => by
    have hi : i < xs.length := h i (by simp)
    have hp : (part e (xs.map (Value.int q)).toArray (i * 1)).run P w = .ok (.int q (xs[i])) w := by
      refine run_part_plain w (by simp [Program.plainKey, hu]) ?_
      rw [Nat.mul_one, List.getElem?_toArray, List.getElem?_map, List.getElem?_eq_getElem hi]
      rfl
    simp only [Op.eqItems, Sem.run_bind, hp, Result.andThen_ok, run_equalIn_int w d e q k _ _ hu, BEq.rfl, Bool.not_true, Bool.false_eq_true, if_false]
    exact eqItems_same w d hu xs is fun j hj => h j (by simp [hj])
theorem cells5 : Tryd.prog.cellsOf 5 = 1 := by
  have h := info5s
  unfold Program.cellsOf
  cases hi : Tryd.prog.info? 5 with
  | none => rw [hi] at h; cases h
  | some i => rw [hi] at h; simpa using h
theorem eq_same (w : World) (xs : List Int) (hl : xs.length = 32) : (Op.equalIn 10000 23 (.agg (xs.map (Value.int .u8)).toArray) (.agg (xs.map (Value.int .u8)).toArray)).run Tryd.prog w = .ok true w := by
  obtain ⟨i, hi⟩ := info_of_underlying Tryd.underlying5
  rw [run_equalIn_array w 9999 _ _ Tryd.underlying23 hi, cells5]
  exact eqItems_same w 9998 Tryd.underlying5 xs _ fun i h => by simpa [hl] using h
theorem guard23 : Tryd.prog.eqGuardType Tryd.prog.depth 23 = false := by kernel_rfl
/-- What a text of a sum is. -/
def told (l : List Int) : ByteArray := strOfNums (hex l)
theorem told_of {l : List Int} {t : ByteArray} (h : bl t = hex l) : t = told l := bl_inj (h.trans (bl_strOfNums _ (hex_rng _)).symm)
theorem text_told (w : World) (l : List Int) (hl : l.length = 32) (hr : ∀ x ∈ l, 0 ≤ x ∧ x < 256) :
    Calls Tryd.prog 10 #[.agg (l.map (Value.int .u8)).toArray] w fun e w' => e = .returned (.string (told l)) ∧ Fr w.heap.size [] w w' :=
  (text_any w l hl hr).mono fun _ _ ⟨⟨_, he, ht⟩, hf⟩ => ⟨by rw [he, told_of ht], hf⟩
theorem rtext_told (w : World) (l : List Int) (hl : l.length = 32) (hr : ∀ x ∈ l, 0 ≤ x ∧ x < 256) :
    Calls Tryd.prog 11 #[.agg (l.map (Value.int .u8)).toArray] w fun e w' => e = .returned (.string (told l)) ∧ Fr w.heap.size [] w w' :=
  (rtext_any w l hl hr).mono fun _ _ ⟨⟨_, he, ht⟩, hf⟩ => ⟨by rw [he, told_of ht], hf⟩
theorem digest_len (a : List Int) : (digest a).length = 32 := bytesOf_len _
theorem digest_rng (a : List Int) : ∀ x ∈ digest a, 0 ≤ x ∧ x < 256 := bytesOf_rng _
theorem ones_int (k : IntKind) (l : List Int) : ∀ v ∈ l.map (Value.int k), v.oneCell' = true := ints_oneCell _ _
@[go_sem] theorem eq_digest (w : World) (a : List Int) : (Op.equalIn 10000 23 (.agg ((digest a).map (Value.int .u8)).toArray) (.agg ((digest a).map (Value.int .u8)).toArray)).run Tryd.prog w = .ok true w := eq_same w _ (digest_len a)
end Go.Proofs.YtpboclafoccfnaaDoor
