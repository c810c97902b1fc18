/- NewRead, None, Got. -/
import Derived.Test.YtcemlacfldonlaaQuoNew
namespace Go.Proofs.Ytcemlacfldonlaa
open Go.RowKit
section
variable {w : World} {g ty : Nat} {F : List Nat} {need prime : Int} {L : List Tg}
set_option maxHeartbeats 1000000 in
theorem newRead_any (w : World) (A : Option Addr) (c : Nat) (ts : List (Int × Int)) (need prime : Int) (hA : ARow w w.heap.size A (ts.flatMap PT)) (hl : ts.length ≤ 1000000) :
    Calls Try.prog 11 #[.slice A ts.length c, .int .i64 need, .int .i64 prime] w fun e w' => ∃ G F, e = .returned (.pointer (some ⟨G, 0, none⟩)) ∧ TyIs w' G 67 F need prime (newL ts) ∧ Fr w.heap.size [] w w' ∧ ∀ q ∈ F, w.heap.size ≤ q := by
  have hn := new_any w A c ts need prime hA hl
  have hfin : ∀ (w2 : World) (A2 : Option Addr) (c2 : Nat) (F : List Nat), Has w2 w.heap.size 57 [.slice A2 (newL ts).length c2, .int .i64 need, .int .i64 prime] → TyIs w2 w.heap.size 57 F need prime (newL ts) → (∀ q ∈ F, w.heap.size ≤ q) → Fr w.heap.size [] w w2 →
      TyIs (w2.alloc (.cells #[.slice A2 (newL ts).length c2, .int .i64 need, .int .i64 prime] 67)) w2.heap.size 67 (w2.heap.size :: F) need prime (newL ts) := by
    intro w2 A2 c2 F k1 k2 k3 k4
    obtain ⟨A3, c3, h1, h2, h3⟩ := k2.ex
    have e := k1.cell 0
    rw [h1.cell 0] at e
    simp only [List.getElem?_cons_zero, Option.some.injEq, Value.slice.injEq, true_and] at e
    obtain ⟨rfl, rfl⟩ := e
    refine ⟨⟨A3, c3, Has.new w2 _ [.slice A3 (newL ts).length c3, .int .i64 need, .int .i64 prime], h2.alloc _, fun blk o e => ?_⟩, by simp, fun q hq => ?_⟩
    · have := (h3 blk o e).1
      have := k2.lt blk this
      exact ⟨by simp [(h3 blk o e).1], by omega⟩
    · rcases List.mem_cons.1 hq with rfl | hq
      · simp
      · have := k2.lt q hq
        simp
        omega
  obtain ⟨L, hL⟩ : ∃ L, newL ts = L := ⟨_, rfl⟩
  rw [hL] at hn hfin ⊢
  go_enter Try.func11, Try.ntmps11
  go_wp2_with (go_at_call 6; (with_reducible refine hn.mono ?_); rintro e w2 ⟨rfl, F, h2, f2, hF⟩; obtain ⟨A2, c2, r1, r2, r3⟩ := h2.row; have x0 := r1.cell 0; have x1 := r1.cell 1; have x2 := r1.cell 2)
  go_ret
  exact ⟨_, _, rfl, hfin w2 A2 c2 F r1 h2 hF f2, f2.alloc f2.size _, fun q hq => by
    rcases List.mem_cons.1 hq with rfl | hq
    · exact f2.size
    · exact hF q hq⟩
set_option maxHeartbeats 1000000 in
theorem none_nil (w : World) (n : Int) : Calls Try.prog 14 #[.pointer none, .int .i64 n] w fun e w' => e = .returned (.bool false) ∧ w = w' := by
  go_enter Try.func14, Try.ntmps14
  go_wp2
  go_ret
  exact ⟨rfl, rfl⟩
set_option maxHeartbeats 1000000 in
theorem none_any (h : TyIs w g ty F need prime L) (hl : L.length ≤ 1000000000) (hn : (L.map Tg.node).Nodup) (n : Int) :
    Calls Try.prog 14 #[.pointer (some ⟨g, 0, none⟩), .int .i64 n] w fun e w' => e = .returned (.bool (L.any (newB n))) ∧ TyIs w' g ty F need prime (sayL 1 n L) ∧ Fr w.heap.size F w w' := by
  have f1 := (Fr.refl w.heap.size [] w).alloc (Nat.le_refl _) (.cells #[.int .i64 n] 3)
  have hy := yes_any (h.fr0 f1) hl hn n w.heap.size 0 1 ((Has.new w 3 [.int .i64 n]).cell 0)
  obtain ⟨R, hR⟩ : ∃ R, L.any (newB n) = R := ⟨_, rfl⟩
  rw [hR] at hy ⊢
  go_enter Try.func14, Try.ntmps14
  go_wp2_with (go_at_call 8; (with_reducible refine hy.mono ?_); rintro e w2 ⟨rfl, h2, f2⟩)
  go_ret
  exact ⟨rfl, h2, (f1.mono (Nat.le_refl _) (by simp)).trans (f2.mono f1.size fun _ h _ => h)⟩
end
end Go.Proofs.Ytcemlacfldonlaa
