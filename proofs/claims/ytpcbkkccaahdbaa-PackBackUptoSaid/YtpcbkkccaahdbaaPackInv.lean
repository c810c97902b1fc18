/- Numbers: what was taken up is what would be laid down, and the other way round (plain); a thing taken up, of any kind. -/
import Derived.Test.YtpcbkkccaahdbaaPackAwake
namespace Go.Proofs.Ytpcbkkccaahdbaa
open Go.RowKit
namespace Pk
theorem numD_inv : ∀ (l : List UInt8) (i acc n : Nat) (r : List UInt8), numD i acc l = (n, r, 0) → ∃ m, n = acc + m * 128 ^ i ∧ l = numB m ++ r ∧ (0 < i → m ≠ 0)
  | [], i, acc, n, r, h => by simp [numD] at h
  | c :: l, i, acc, n, r, h => by
    rw [numD_cons] at h
    have hc := c.toNat_lt
    split at h
    · simp at h
    · rename_i hb
      split at h
      · rename_i hl
        simp only [Prod.mk.injEq, and_true] at h
        obtain ⟨rfl, rfl⟩ := h
        refine ⟨c.toNat, rfl, ?_, fun hi h0 => hb (.inr ⟨hi, h0⟩)⟩
        rw [numB_small hl]
        simp
      · rename_i hl
        obtain ⟨m, hn, hl2, hm⟩ := numD_inv l (i + 1) _ n r h
        have hm0 := hm (by omega)
        refine ⟨c.toNat - 128 + 128 * m, ?_, ?_, fun _ => by omega⟩
        · rw [hn, Nat.pow_succ, Nat.add_mul, Nat.add_assoc]
          congr 2
          rw [Nat.mul_comm 128 m, Nat.mul_assoc, Nat.mul_comm (128 ^ i) 128]
        · rw [numB_big (by omega), hl2, show (c.toNat - 128 + 128 * m) / 128 = m by omega, show 128 + (c.toNat - 128 + 128 * m) % 128 = c.toNat by omega]
          simp
theorem num_inv {l r : List UInt8} {n : Nat} (h : numE l 0 = (n, r, 0)) : l = numB n ++ r := by
  obtain ⟨m, hn, hl, _⟩ := numD_inv l 0 0 n r h
  rw [show n = m by simpa using hn]
  exact hl
theorem zig_zag (n : Nat) : zig (zag n) = n := by unfold zig zag; split <;> split <;> omega
theorem zag_zig (n : Int) : zag (zig n) = n := by unfold zig zag; split <;> split <;> omega
theorem zag_rng {n : Nat} (h : n < 18446744073709551616) : -9223372036854775808 ≤ zag n ∧ zag n ≤ 9223372036854775807 := by unfold zag; split <;> omega
/-- What was taken up as a thing like t: the thing, the rest, the error. -/
def takeE (t : Th) (l : List UInt8) (e : Int) : Th × List UInt8 × Int :=
  if t.kind = 1 then (⟨1, t.least, ((intE l e).1 % 18446744073709551616).toNat, ByteArray.empty⟩, (intE l e).2) else
  if t.kind = 2 then (⟨2, t.least, if (flagE l e).1 then 1 else 0, ByteArray.empty⟩, (flagE l e).2) else
  if t.kind = 3 then (⟨3, t.least, 0, mkS (textE l e).1⟩, (textE l e).2) else
  if t.kind = 4 then (⟨4, t.least, 0, mkS (rawE l e t.s.size).1⟩, (rawE l e t.s.size).2) else
  if t.kind = 5 then (⟨5, t.least, (manyE l e t.least).1, ByteArray.empty⟩, (manyE l e t.least).2) else
  (⟨t.kind, t.least, (numE l e).1, ByteArray.empty⟩, (numE l e).2)
theorem takeE_1 {ls : Int} {n : Nat} {s : ByteArray} {l : List UInt8} {e : Int} : takeE ⟨1, ls, n, s⟩ l e = (⟨1, ls, ((intE l e).1 % 18446744073709551616).toNat, ByteArray.empty⟩, (intE l e).2) := by unfold takeE; exact if_pos rfl
theorem takeE_2 {ls : Int} {n : Nat} {s : ByteArray} {l : List UInt8} {e : Int} : takeE ⟨2, ls, n, s⟩ l e = (⟨2, ls, if (flagE l e).1 then 1 else 0, ByteArray.empty⟩, (flagE l e).2) := by unfold takeE; simp
theorem takeE_3 {ls : Int} {n : Nat} {s : ByteArray} {l : List UInt8} {e : Int} : takeE ⟨3, ls, n, s⟩ l e = (⟨3, ls, 0, mkS (textE l e).1⟩, (textE l e).2) := by unfold takeE; simp
theorem takeE_4 {ls : Int} {n : Nat} {s : ByteArray} {l : List UInt8} {e : Int} : takeE ⟨4, ls, n, s⟩ l e = (⟨4, ls, 0, mkS (rawE l e s.size).1⟩, (rawE l e s.size).2) := by unfold takeE; simp
theorem takeE_5 {ls : Int} {n : Nat} {s : ByteArray} {l : List UInt8} {e : Int} : takeE ⟨5, ls, n, s⟩ l e = (⟨5, ls, (manyE l e ls).1, ByteArray.empty⟩, (manyE l e ls).2) := by unfold takeE; simp
theorem takeE_6 {k ls : Int} {n : Nat} {s : ByteArray} {l : List UInt8} {e : Int} (h1 : k ≠ 1) (h2 : k ≠ 2) (h3 : k ≠ 3) (h4 : k ≠ 4) (h5 : k ≠ 5) : takeE ⟨k, ls, n, s⟩ l e = (⟨k, ls, (numE l e).1, ByteArray.empty⟩, (numE l e).2) := by
  unfold takeE; simp only [if_neg h1, if_neg h2, if_neg h3, if_neg h4, if_neg h5]
theorem six (k : Int) : k = 1 ∨ k = 2 ∨ k = 3 ∨ k = 4 ∨ k = 5 ∨ (k ≠ 1 ∧ k ≠ 2 ∧ k ≠ 3 ∧ k ≠ 4 ∧ k ≠ 5) := by omega
end Pk
open Pk
theorem take_any (w : World) (b : Nat) (l : List UInt8) (e : Int) (t : Th) (h : RdL w b l e) (ht : t.ok) (hl : l.length ≤ 4611686018427387904) (hs : t.s.size ≤ 9223372036854775807) :
    Calls Try.prog 22 #[.pointer (some ⟨b, 0, none⟩), t.val] w fun r w' => r = .returned (takeE t l e).1.val ∧ RdL w' b (takeE t l e).2.1 (takeE t l e).2.2 ∧ Fr w.heap.size [b] w w' := by
  obtain ⟨k, ls, n, s⟩ := t
  obtain ⟨_, ⟨hl0, hl1⟩, hn⟩ := ht
  unfold Th.val
  rcases six k with rfl | rfl | rfl | rfl | rfl | ⟨h1, h2, h3, h4, h5⟩
  · rw [takeE_1]; exact take_1 w b l e ls n s h
  · rw [takeE_2]
    cases hf : (flagE l e).1 with
    | true => exact take_2t w b l e ls n s h hf
    | false => exact take_2f w b l e ls n s h hf
  · rw [takeE_3]; exact take_3 w b l e ls n s h hl
  · rw [takeE_4]; exact take_4 w b l e ls n s h hs
  · rw [takeE_5]; exact take_5 w b l e ls n s h hl hl0 hl1
  · rw [takeE_6 h1 h2 h3 h4 h5]; exact take_6 w b l e k ls n s h h1 h2 h3 h4 h5
end Go.Proofs.Ytpcbkkccaahdbaa
