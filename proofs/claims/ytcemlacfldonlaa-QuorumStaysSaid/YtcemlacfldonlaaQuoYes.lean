/- say, Yes, No: the walks. -/
import Derived.Test.YtcemlacfldonlaaQuoSay
namespace Go.Proofs.Ytcemlacfldonlaa
open Go.RowKit
section
variable {w : World} {g ty : Nat} {F : List Nat} {need prime : Int} {L : List Tg}
set_option maxHeartbeats 1000000 in
theorem say_nil (w : World) (what n : Int) (bb bo c : Nat) (hB : w.cell? ⟨bb, bo, none⟩ = some (.int .i64 n)) : Calls Try.prog 18 #[.pointer none, .int .i64 what, .slice (some ⟨bb, bo, none⟩) 1 c] w fun e w' => e = .returned (.bool false) ∧ w = w' := by
  go_enter Try.func18, Try.ntmps18
  go_wp2
  go_loopw [7, 13] (fun a i wr => a = .bool false ∧ i = .int .i64 0 ∧ w = wr) (fun _ _ _ => 0)
  case atStart => exact ⟨rfl, rfl, rfl⟩
  case round =>
    obtain ⟨rfl, rfl, rfl⟩ := hrel
    go_wp2
    go_ret
    exact ⟨rfl, rfl⟩
set_option maxRecDepth 100000 in
set_option maxHeartbeats 2000000 in
theorem say_any (h : TyIs w g ty F need prime L) (hl : L.length ≤ 1000000000) (hn : (L.map Tg.node).Nodup) (what n : Int) (bb bo c : Nat) (hB : w.cell? ⟨bb, bo, none⟩ = some (.int .i64 n)) :
    Calls Try.prog 18 #[.pointer (some ⟨g, 0, none⟩), .int .i64 what, .slice (some ⟨bb, bo, none⟩) 1 c] w fun e w' => e = .returned (.bool (L.any (newB n))) ∧ TyIs w' g ty F need prime (sayL what n L) ∧ Fr w.heap.size F w w' := by
  obtain ⟨A, cp, h1, hA, hAF⟩ := h.row
  have hf := find_any h1 hA hl n
  obtain ⟨R, hR⟩ : ∃ R, L.any (newB n) = R := ⟨_, rfl⟩
  obtain ⟨L', hL'⟩ : ∃ L', sayL what n L = L' := ⟨_, rfl⟩
  rw [hR, hL']
  replace hR : Hid (L.any (newB n) = R) := hR
  replace hL' : Hid (sayL what n L = L') := hL'
  go_enter Try.func18, Try.ntmps18
  go_wp2
  go_loopw [7, 13] (fun a i wr => (i = .int .i64 0 ∧ a = .bool false ∧ w = wr) ∨ (i = .int .i64 1 ∧ a = .bool R ∧ TyIs wr g ty F need prime L' ∧ Fr w.heap.size F w wr)) (fun _ i _ => 1 - (intOf i).toNat)
  case atStart => exact .inl ⟨rfl, rfl, rfl⟩
  case round =>
    rcases hrel with ⟨rfl, rfl, rfl⟩ | ⟨rfl, rfl, hT, hF⟩
    · go_upto_region 7 with (go_at_call 16; (with_reducible refine hf.mono ?_); rintro e w2 ⟨v, rfl, hv, f2⟩)
      have h2 := h.fr0 f2
      have fF : Fr w.heap.size F w w2 := f2.mono (Nat.le_refl _) (by simp)
      clear hf
      rcases hv with ⟨hno, rfl⟩ | ⟨k, hk, blk, o, rfl, rfl, hk1, hbef⟩
      · obtain ⟨q1, q2⟩ := say_none (what := what) (n := n) (L := L) fun x hx => by unfold newB; simp [hno x hx]
        have e1 : R = false := by rw [← hR.out, q2]
        have e2 : L' = L := by rw [← hL'.out, q1]
        subst e1 e2
        go_wp2
        exact ⟨.inr ⟨rfl, rfl, h2, fF⟩, by simp [intOf]⟩
      · obtain ⟨rfl, z2, T3, o3, m3⟩ := h2.write (h1.fr f2 h1.lt (by simp)) hk rfl what
        obtain ⟨blk', o', hA', hb', d0, d1, d2, d3⟩ := tg_cells (hA.fr f2 (Nat.le_refl _) (by simp)) k hk
        injection hA' with hA'
        injection hA' with hA1 hA2
        subst hA1 hA2
        obtain ⟨sv, hsv⟩ : ∃ sv, L[k].said = sv := ⟨_, rfl⟩
        rw [hsv, Nat.zero_add] at d2
        by_cases hs : sv = 0
        · subst hs
          obtain ⟨q1, q2⟩ := say_set (what := what) hn hk hk1 hsv
          have e1 : R = true := by rw [← hR.out, q2]
          have e2 : L.set k { L[k] with said := what } = L' := by rw [← hL'.out, q1]
          rw [e2] at T3
          subst e1
          clear e2 q1 q2 hsv d0 d1 d3 hbef
          go_wp2
          exact ⟨.inr ⟨rfl, rfl, T3, fF.one o3 (.inl m3)⟩, by simp [intOf]⟩
        · have hs0 : (sv == 0) = false := by simpa using hs
          obtain ⟨q1, q2⟩ := say_none (what := what) (n := n) (L := L) fun x hx => by
            unfold newB
            by_cases e : x.node = n
            · have := node_only hn hk x hx (by rw [e, hk1])
              subst this
              simp [hsv, hs]
            · simp [e]
          have e1 : R = false := by rw [← hR.out, q2]
          have e2 : L' = L := by rw [← hL'.out, q1]
          subst e1 e2
          clear hsv d0 d1 d3 hbef T3 o3 z2
          go_wp2
          exact ⟨.inr ⟨rfl, rfl, h2, fF⟩, by simp [intOf]⟩
    · clear hf
      go_wp2
      go_ret
      exact ⟨rfl, hT, hF⟩
set_option maxHeartbeats 1000000 in
theorem yes_any (h : TyIs w g ty F need prime L) (hl : L.length ≤ 1000000000) (hn : (L.map Tg.node).Nodup) (n : Int) (bb bo c : Nat) (hB : w.cell? ⟨bb, bo, none⟩ = some (.int .i64 n)) :
    Calls Try.prog 8 #[.pointer (some ⟨g, 0, none⟩), .slice (some ⟨bb, bo, none⟩) 1 c] w fun e w' => e = .returned (.bool (L.any (newB n))) ∧ TyIs w' g ty F need prime (sayL 1 n L) ∧ Fr w.heap.size F w w' := by
  have hs := say_any h hl hn 1 n bb bo c hB
  obtain ⟨R, hR⟩ : ∃ R, L.any (newB n) = R := ⟨_, rfl⟩
  rw [hR] at hs ⊢
  go_enter Try.func8, Try.ntmps8
  go_wp2_with (go_at_call 18; (with_reducible refine hs.mono ?_); rintro e w2 ⟨rfl, h2, f2⟩)
  go_ret
  exact ⟨rfl, h2, f2⟩
set_option maxHeartbeats 1000000 in
theorem no_any (h : TyIs w g ty F need prime L) (hl : L.length ≤ 1000000000) (hn : (L.map Tg.node).Nodup) (n : Int) (bb bo c : Nat) (hB : w.cell? ⟨bb, bo, none⟩ = some (.int .i64 n)) :
    Calls Try.prog 9 #[.pointer (some ⟨g, 0, none⟩), .slice (some ⟨bb, bo, none⟩) 1 c] w fun e w' => e = .returned (.bool (L.any (newB n))) ∧ TyIs w' g ty F need prime (sayL 2 n L) ∧ Fr w.heap.size F w w' := by
  have hs := say_any h hl hn 2 n bb bo c hB
  obtain ⟨R, hR⟩ : ∃ R, L.any (newB n) = R := ⟨_, rfl⟩
  rw [hR] at hs ⊢
  go_enter Try.func9, Try.ntmps9
  go_wp2_with (go_at_call 18; (with_reducible refine hs.mono ?_); rintro e w2 ⟨rfl, h2, f2⟩)
  go_ret
  exact ⟨rfl, h2, f2⟩
end
end Go.Proofs.Ytcemlacfldonlaa
