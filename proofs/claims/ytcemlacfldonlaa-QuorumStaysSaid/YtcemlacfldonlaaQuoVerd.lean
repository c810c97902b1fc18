/- Verdict; a tally of the call's own. -/
import Derived.Test.YtcemlacfldonlaaQuoCount
namespace Go.Proofs.Ytcemlacfldonlaa
open Go.RowKit
def verdN (need prime : Int) (L : List Tg) : Int := if need ≤ cntN 1 L ∧ prime ≤ cnpN 1 L then 1 else if (cntN 1 L : Int) + cntN 0 L < need ∨ (cnpN 1 L : Int) + cnpN 0 L < prime then 2 else 0
/-- A tally in block g; its blocks are F. -/
structure TyIs (w : World) (g ty : Nat) (F : List Nat) (need prime : Int) (L : List Tg) : Prop where
  ex : ∃ A c, Has w g ty [.slice A L.length c, .int .i64 need, .int .i64 prime] ∧ w.ownsRow 0 62 4 (.slice A L.length c) L.length (L.flatMap Tg.cells) ∧ ∀ blk o, A = some ⟨blk, o, none⟩ → blk ∈ F ∧ blk ≠ g
  self : g ∈ F
  lt : ∀ k ∈ F, k < w.heap.size
theorem own_arowT {w : World} {base e size n : Nat} {v : Value} {xs : List Value} (h : w.ownsRow base e size v n xs) : ∃ A c, v = .slice A n c ∧ ARow w w.heap.size A xs := by
  rcases h.2 with ⟨hv, h0⟩ | ⟨g, cap, cur, hv, hbg, hh, r⟩
  · exact ⟨none, 0, by rw [hv, h0], .inl (List.eq_nil_of_length_eq_zero (by rw [h.1, h0, Nat.zero_mul]))⟩
  · rw [hv] at h
    refine ⟨_, cap, hv, .inr ⟨g, 0, rfl, (Array.getElem?_eq_some_iff.1 hh).1, fun j u hu => ?_⟩⟩
    have hj : j < n * size := by
      have := (List.getElem?_eq_some_iff.1 hu).1
      rwa [h.1] at this
    have := h.cellAt j hj
    rw [Nat.zero_add, this]
    exact hu
theorem TyIs.row {w : World} {g ty : Nat} {F : List Nat} {need prime : Int} {L : List Tg} (h : TyIs w g ty F need prime L) : ∃ A c, Has w g ty [.slice A L.length c, .int .i64 need, .int .i64 prime] ∧ ARow w w.heap.size A (L.flatMap Tg.cells) ∧ ∀ blk o, A = some ⟨blk, o, none⟩ → blk ∈ F ∧ blk ≠ g := by
  obtain ⟨A, c, h1, h2, h3⟩ := h.ex
  obtain ⟨A', c', e, h4⟩ := own_arowT h2
  injection e with e1 e2 e3
  subst e1
  exact ⟨A, c, h1, h4, h3⟩
theorem TyIs.fr {w w' : World} {g ty B : Nat} {F S : List Nat} {need prime : Int} {L : List Tg} (h : TyIs w g ty F need prime L) (hf : Fr B S w w') (hB : ∀ k ∈ F, k < B ∧ k ∉ S) : TyIs w' g ty F need prime L := by
  obtain ⟨A, c, h1, h2, h3⟩ := h.ex
  refine ⟨⟨A, c, h1.fr hf (hB g h.self).1 (hB g h.self).2, ⟨h2.1, ?_⟩, h3⟩, h.self, fun k hk => Nat.lt_of_lt_of_le (h.lt k hk) hf.size⟩
  rcases h2.2 with h0 | ⟨g2, cap, cur, he, hb, hg, r⟩
  · exact .inl h0
  · injection he with e1 e2 e3
    have := hB g2 (h3 g2 0 e1).1
    exact .inr ⟨g2, cap, cur, by rw [e1, e3], hb, (hf.block g2 this.1 this.2).trans hg, r⟩
theorem TyIs.fr0 {w w' : World} {g ty : Nat} {F : List Nat} {need prime : Int} {L : List Tg} (h : TyIs w g ty F need prime L) (hf : Fr w.heap.size [] w w') : TyIs w' g ty F need prime L := h.fr hf fun k hk => ⟨h.lt k hk, by simp⟩
section
variable {w : World} {g ty : Nat} {F : List Nat} {need prime : Int} {L : List Tg}
set_option maxHeartbeats 1000000 in
theorem verd_nil (w : World) : Calls Try.prog 7 #[.pointer none] w fun e w' => e = .returned (.int .i64 2) ∧ w = w' := by
  go_enter Try.func7, Try.ntmps7
  go_wp2
  go_ret
  exact ⟨rfl, rfl⟩
set_option maxRecDepth 100000 in
set_option maxHeartbeats 2000000 in
theorem verd_any (h : TyIs w g ty F need prime L) (hl : L.length ≤ 1000000000) : Calls Try.prog 7 #[.pointer (some ⟨g, 0, none⟩)] w fun e w' => e = .returned (.int .i64 (verdN need prime L)) ∧ Fr w.heap.size [] w w' := by
  obtain ⟨A, c, h1, hA, -⟩ := h.row
  have hc1 := count_any h1 hA hl 1
  have l1 := cnt_le 1 L
  have l2 := cnp_le 1 L
  have l3 := cnt_le 0 L
  have l4 := cnp_le 0 L
  have hc0 : ∀ W, Fr w.heap.size [] w W → Calls Try.prog 17 #[.pointer (some ⟨g, 0, none⟩), .int .i64 0] W fun e w' => e = .returned (.tuple #[.int .i64 (cntN 0 L : Int), .int .i64 (cnpN 0 L : Int)]) ∧ Fr W.heap.size [] W w' := fun W hW =>
    count_any (h1.fr hW h1.lt (by simp)) ((hA.fr hW (Nat.le_refl _) (by simp)).mono hW.size) hl 0
  have hcc : ∀ W, Fr w.heap.size [] w W → W.cell? ⟨g, 1, none⟩ = some (.int .i64 need) ∧ W.cell? ⟨g, 2, none⟩ = some (.int .i64 prime) := fun W hW => ⟨(h1.fr hW h1.lt (by simp)).cell 1, (h1.fr hW h1.lt (by simp)).cell 2⟩
  unfold verdN
  obtain ⟨x1, hx1⟩ : ∃ x, cntN 1 L = x := ⟨_, rfl⟩
  obtain ⟨y1, hy1⟩ : ∃ x, cnpN 1 L = x := ⟨_, rfl⟩
  obtain ⟨x0, hx0⟩ : ∃ x, cntN 0 L = x := ⟨_, rfl⟩
  obtain ⟨y0, hy0⟩ : ∃ x, cnpN 0 L = x := ⟨_, rfl⟩
  rw [hx1] at hc1 l1
  rw [hy1] at hc1 l2
  rw [hx0] at hc0 l3
  rw [hy0] at hc0 l4
  rw [hx1, hy1, hx0, hy0]
  obtain ⟨R, hR⟩ : ∃ R, (if need ≤ (x1 : Int) ∧ prime ≤ (y1 : Int) then (1 : Int) else if (x1 : Int) + x0 < need ∨ (y1 : Int) + y0 < prime then 2 else 0) = R := ⟨_, rfl⟩
  rw [hR]
  replace hR : Hid ((if need ≤ (x1 : Int) ∧ prime ≤ (y1 : Int) then (1 : Int) else if (x1 : Int) + x0 < need ∨ (y1 : Int) + y0 < prime then 2 else 0) = R) := hR
  have w1 : IntKind.i64.wrap ((x1 : Int) + x0) = x1 + x0 := IntWalk.i64_in _ (by omega)
  have w2 : IntKind.i64.wrap ((y1 : Int) + y0) = y1 + y0 := IntWalk.i64_in _ (by omega)
  clear hx1 hy1 hx0 hy0 hA
  go_enter Try.func7, Try.ntmps7
  go_upto_region 4 with (go_at_call 17; (with_reducible refine hc1.mono ?_); rintro e wa ⟨rfl, fa⟩)
  go_upto_region 5 with (go_at_call 17; (with_reducible refine (hc0 wa fa).mono ?_); rintro e wb ⟨rfl, fb⟩)
  have fab := fa.trans (fb.mono fa.size (by simp))
  obtain ⟨d1, d2⟩ := hcc wb fab
  clear hc0 hc1 hcc
  by_cases p1 : need ≤ (x1 : Int)
  · have q1 : decide ((x1 : Int) ≥ need) = true := decide_eq_true p1
    by_cases p2 : prime ≤ (y1 : Int)
    · have q2 : decide ((y1 : Int) ≥ prime) = true := decide_eq_true p2
      go_wp2
      go_ret
      exact ⟨by (rw [← hR.out, if_pos ⟨by omega, by omega⟩]; first | done | rfl), fab⟩
    · have q2 : decide ((y1 : Int) ≥ prime) = false := decide_eq_false p2
      have q3 : decide ((x1 : Int) + x0 < need) = false := decide_eq_false (by omega)
      by_cases p4 : (y1 : Int) + y0 < prime
      · have q4 : decide ((y1 : Int) + y0 < prime) = true := decide_eq_true p4
        go_wp2
        go_ret
        exact ⟨by (rw [← hR.out, if_neg (by omega), if_pos (.inr (by omega))]; first | done | rfl), fab⟩
      · have q4 : decide ((y1 : Int) + y0 < prime) = false := decide_eq_false p4
        go_wp2
        go_ret
        exact ⟨by (rw [← hR.out, if_neg (by omega), if_neg (by omega)]; first | done | rfl), fab⟩
  · have q1 : decide ((x1 : Int) ≥ need) = false := decide_eq_false p1
    by_cases p3 : (x1 : Int) + x0 < need
    · have q3 : decide ((x1 : Int) + x0 < need) = true := decide_eq_true p3
      go_wp2
      go_ret
      exact ⟨by (rw [← hR.out, if_neg (by omega), if_pos (.inl (by omega))]; first | done | rfl), fab⟩
    · have q3 : decide ((x1 : Int) + x0 < need) = false := decide_eq_false p3
      by_cases p4 : (y1 : Int) + y0 < prime
      · have q4 : decide ((y1 : Int) + y0 < prime) = true := decide_eq_true p4
        go_wp2
        go_ret
        exact ⟨by (rw [← hR.out, if_neg (by omega), if_pos (.inr (by omega))]; first | done | rfl), fab⟩
      · have q4 : decide ((y1 : Int) + y0 < prime) = false := decide_eq_false p4
        go_wp2
        go_ret
        exact ⟨by (rw [← hR.out, if_neg (by omega), if_neg (by omega)]; first | done | rfl), fab⟩
end
end Go.Proofs.Ytcemlacfldonlaa
