/- Cancel. -/
import Derived.Test.YtkclpkepmckjgaaWhlTop
namespace Go.Proofs.Ytkclpkepmckjgaa
open Go.RowKit Go.Maps
open Wh
def Wh.cancelS (D : List (Key × Tm)) (xs : List Key) : List (Key × Tm) := D.filter fun d => decide (d.1 ∉ xs)
theorem Wh.cancelS_nil (D : List (Key × Tm)) : cancelS D [] = D := by simp [cancelS]
theorem Wh.cancelS_snoc (D : List (Key × Tm)) (xs : List Key) (a : Key) : (cancelS D xs).filter (fun d => decide (d.1 ≠ a)) = cancelS D (xs ++ [a]) := by
  unfold cancelS
  rw [List.filter_filter]
  congr 1
  funext d
  simp [Bool.and_comm]
theorem Wh.cancelS_le (D : List (Key × Tm)) (xs : List Key) : (cancelS D xs).length ≤ D.length := List.length_filter_le _ _
theorem name_of {A : Option Addr} {w : World} {N : Nat} {xs : List Key} (h : ARow w N A (xs.map KV)) (k : Nat) (hk : k < xs.length) : ∃ blk o, A = some ⟨blk, o, none⟩ ∧ blk < N ∧ w.cell? ⟨blk, o + k, none⟩ = some (KV xs[k]) := by
  rcases h with h | ⟨blk, o, hA, hb, hr⟩
  · simp at h; subst h; simp at hk
  · exact ⟨blk, o, hA, hb, hr k _ (by simp [hk])⟩
theorem map_del {w : World} {mp : Value} {F : List Nat} {D : List (Key × Tm)} (h : MapOf w mp F D) (p : Key) (ty : TypeId) :
    ∃ w', (Builtin.delete_ #[47, 9] ty #[mp, KV p]).run Try.prog w = .ok (.tuple #[]) w' ∧ MapOf w' mp F (D.filter fun d => decide (d.1 ≠ p)) ∧ Fr w.heap.size F w w' ∧ w'.heap.size = w.heap.size ∧ ∀ g t cs, Has w g t cs → Has w' g t cs := by
  rcases h with ⟨rfl, rfl⟩ | ⟨b, rfl, h, hb⟩
  · exact ⟨w, Maps.drop_nil strEnc.keyed Try.underlying47 (keyOf_KV p) ty, .inl ⟨rfl, rfl⟩, Fr.refl _ _ _, rfl, fun _ _ _ h => h⟩
  · obtain ⟨w', h1, h2, h3⟩ := h.del strEnc Try.underlying47 (fun _ _ => trivial) (a := p) trivial ty
    refine ⟨w', h1, .inr ⟨b, rfl, h2, hb⟩, (Fr.refl _ _ _).one h3 (.inl hb), h3.size, fun g t cs hg => hg.one h3 ?_⟩
    intro e
    obtain ⟨es, clock, hb', _⟩ := h
    unfold Has at hg
    rw [e, hb'] at hg
    cases hg
set_option maxHeartbeats 1000000 in
theorem wcancel_nil (w : World) (A : Option Addr) (n c : Nat) : Calls Try.prog 9 #[.pointer none, .slice A n c] w fun e w' => e = .returned (.int .i64 0) ∧ w = w' := by
  go_enter Try.func9, Try.ntmps9
  go_wp2
  go_ret
  exact ⟨rfl, rfl⟩
set_option maxHeartbeats 2000000 in
theorem wcancel_any (w : World) (g : Nat) (F : List Nat) (n : Int) (D : List (Key × Tm)) (h : WhIs w g F n D) (hDl : D.length ≤ 4611686018427387904) (A : Option Addr) (c : Nat) (xs : List Key) (hA : ARow w w.heap.size A (xs.map KV)) (hAF : xs ≠ [] → ∀ blk o, A = some ⟨blk, o, none⟩ → blk ∉ F) (hl : xs.length ≤ 4611686018427387904) :
    Calls Try.prog 9 #[.pointer (some ⟨g, 0, none⟩), .slice A xs.length c] w fun e w' => e = .returned (.int .i64 ((D.length : Int) - (cancelS D xs).length)) ∧ WhIs w' g F n (cancelS D xs) ∧ Fr w.heap.size F w w' ∧ w'.heap.size = w.heap.size := by
  obtain ⟨mp, h1, h2⟩ := h.ex
  have c0 : w.cell? ⟨g, 0, none⟩ = some mp := h1.cell 0
  have hlen := map_len h2
  go_enter Try.func9, Try.ntmps9
  go_wp2
  go_loopw [17] (fun i wr => ∃ k : Nat, k ≤ xs.length ∧ i = .int .i64 (k : Int) ∧ Has wr g 49 [mp, .int .i64 n] ∧ MapOf wr mp F (cancelS D (xs.take k)) ∧ Fr w.heap.size F w wr ∧ wr.heap.size = w.heap.size) (fun i _ => xs.length - (intOf i).toNat)
  case atStart => exact ⟨0, by omega, rfl, h1, by simpa [cancelS_nil] using h2, Fr.refl _ _ _, rfl⟩
  case round =>
    obtain ⟨k, hk, rfl, g1, g2, g3, g4⟩ := hrel
    have d0 : wr.cell? ⟨g, 0, none⟩ = some mp := g1.cell 0
    by_cases hlt : k < xs.length
    · obtain ⟨blk, o, rfl, hb, e0⟩ := name_of hA k hlt
      have e1 : wr.cell? ⟨blk, o + k, none⟩ = some (KV xs[k]) := (g3.cell (p := ⟨blk, o + k, none⟩) hb (hAF (fun h0 => by rw [h0] at hlt; simp at hlt) blk o rfl)).trans e0
      have hki : (k : Int) < xs.length := by omega
      obtain ⟨w2, r1, r2, r3, r4, r5⟩ := map_del g2 xs[k] 0
      go_wp2
      go_round
      case rel => exact ⟨k + 1, by omega, by go_num, r5 _ _ _ g1, by rw [List.take_add_one, List.getElem?_eq_getElem hlt, Option.toList_some, ← cancelS_snoc]; exact r2, g3.trans (r3.mono (by omega) (fun _ h _ => h)), by omega⟩
      case measure => simp [intOf]; omega
    · obtain rfl : k = xs.length := by omega
      rw [List.take_length] at g2
      have hl2 := map_len g2
      have hle := cancelS_le D xs
      go_wp2
      go_ret
      refine ⟨by go_num, ⟨⟨mp, g1, g2⟩, h.self, fun q hq => ?_⟩, g3, g4⟩
      rw [g4]; exact h.lt q hq
end Go.Proofs.Ytkclpkepmckjgaa
