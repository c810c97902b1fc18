/- slices.Contains at []int; pair.has. -/
import Derived.Test.YtjlpbhmhnniodaaNetMap
namespace Go.Proofs.Ytjlpbhmhnniodaa
open Go.RowKit Go.Maps
open Nt
theorem nat_of {A : Option Addr} {w : World} {N : Nat} {xs : List Int} (h : ARow w N A (xs.map (Value.int .i64))) (k : Nat) (hk : k < xs.length) : ∃ blk o, A = some ⟨blk, o, none⟩ ∧ blk < N ∧ w.cell? ⟨blk, o + k, none⟩ = some (.int .i64 xs[k]) := by
  rcases h with h | ⟨blk, o, hA, hb, hr⟩
  · simp at h; subst h; simp at hk
  · exact ⟨blk, o, hA, hb, hr k _ (by simp [hk])⟩
set_option maxHeartbeats 1000000 in
theorem idxInt_any (w : World) (A : Option Addr) (c : Nat) (xs : List Int) (v : Int) (h : ARow w w.heap.size A (xs.map (Value.int .i64))) (hl : xs.length ≤ 4611686018427387904) :
    Calls Try.prog 30 #[.slice A xs.length c, .int .i64 v] w fun e w' => (∃ r : Int, e = .returned (.int .i64 r) ∧ (0 ≤ r ↔ v ∈ xs) ∧ r ≤ 4611686018427387904) ∧ w' = w := by
  go_enter Try.func30, Try.ntmps30
  go_wp2
  go_loop [8] (fun i => ∃ k : Nat, k ≤ xs.length ∧ i = .int .i64 (k : Int) ∧ ∀ j (hj : j < xs.length), j < k → xs[j] ≠ v) (fun i => xs.length - (intOf i).toNat)
  case atStart => exact ⟨0, by omega, rfl, fun j _ h => absurd h (by omega)⟩
  case round =>
    obtain ⟨k, hk, rfl, hno⟩ := hrel
    by_cases hlt : k < xs.length
    · obtain ⟨blk, o, rfl, hb, d0⟩ := nat_of h k hlt
      have hki : (k : Int) < xs.length := by omega
      by_cases hx : v = xs[k]
      · have hb : (v == xs[k]) = true := by simpa using hx
        go_wp2
        go_ret
        refine ⟨⟨k, rfl, ?_, by omega⟩, rfl⟩
        first
          | omega
          | exact ⟨fun _ => by rw [hx]; exact List.getElem_mem _, fun _ => by omega⟩
      · have hb : (v == xs[k]) = false := by simpa using hx
        go_wp2
        go_round
        case rel => exact ⟨k + 1, by omega, by go_num, fun j hj hjk => by
          rcases (show j < k ∨ j = k by omega) with h1 | rfl
          · exact hno j hj h1
          · exact fun e => hx e.symm⟩
        case measure => simp [intOf]; omega
    · have hki : ¬ ((k : Int) < xs.length) := by omega
      go_wp2
      go_ret
      refine ⟨⟨-1, rfl, ?_, by omega⟩, rfl⟩
      refine ⟨fun h => absurd h (by omega), fun hm => ?_⟩
      obtain ⟨j, hj, he⟩ := List.getElem_of_mem hm
      exact absurd he (hno j hj (by omega))
set_option maxHeartbeats 1000000 in
theorem hasInt_any (w : World) (A : Option Addr) (c : Nat) (xs : List Int) (v : Int) (h : ARow w w.heap.size A (xs.map (Value.int .i64))) (hl : xs.length ≤ 4611686018427387904) :
    Calls Try.prog 26 #[.slice A xs.length c, .int .i64 v] w fun e w' => e = .returned (.bool (xs.contains v)) ∧ w' = w := by
  go_enter Try.func26, Try.ntmps26
  go_wp2_with (go_at_call 30; (refine (idxInt_any _ A c xs v h hl).mono ?_); rintro e w1 ⟨⟨r, rfl, hr, hr2⟩, rfl⟩)
  go_ret
  exact ⟨by rw [List.contains_eq_mem]; congr 2, rfl⟩
def Nt.hasB (p : Pair) (xs : List Int) : Bool := xs.contains p.1 || xs.contains p.2
set_option maxHeartbeats 1000000 in
theorem has_any (w : World) (p : Pair) (A : Option Addr) (c : Nat) (xs : List Int) (h : ARow w w.heap.size A (xs.map (Value.int .i64))) (hl : xs.length ≤ 4611686018427387904) :
    Calls Try.prog 22 #[KP p, .slice A xs.length c] w fun e w' => e = .returned (.bool (hasB p xs)) ∧ Fr w.heap.size [] w w' := by
  obtain ⟨p, q⟩ := p
  unfold KP hasB
  simp only
  have h' : ∀ W, Fr w.heap.size [] w W → ARow W W.heap.size A (xs.map (Value.int .i64)) := fun W hW => (h.fr hW (Nat.le_refl _) (by simp)).mono hW.size
  have hF := (Fr.refl w.heap.size [] w).alloc (Nat.le_refl _) (.cells #[.int .i64 p, .int .i64 q] 51)
  obtain ⟨bp, hbp⟩ : ∃ bp, xs.contains p = bp := ⟨_, rfl⟩
  obtain ⟨bq, hbq⟩ : ∃ bq, xs.contains q = bq := ⟨_, rfl⟩
  have hp := fun W hW => hasInt_any W A c xs p (h' W hW) hl
  have hq := fun W hW => hasInt_any W A c xs q (h' W hW) hl
  rw [hbp] at hp ⊢
  rw [hbq] at hq ⊢
  go_enter Try.func22, Try.ntmps22
  cases bp
  · go_wp2_with (first
      | (go_at_call 26; (refine (hp _ hF).mono ?_); rintro e w1 ⟨rfl, rfl⟩)
      | (go_at_call 26; (refine (hq _ hF).mono ?_); rintro e w1 ⟨rfl, rfl⟩))
    go_ret
    exact ⟨rfl, hF⟩
  · go_wp2_with (first
      | (go_at_call 26; (refine (hp _ hF).mono ?_); rintro e w1 ⟨rfl, rfl⟩))
    go_ret
    exact ⟨rfl, hF⟩
end Go.Proofs.Ytjlpbhmhnniodaa
