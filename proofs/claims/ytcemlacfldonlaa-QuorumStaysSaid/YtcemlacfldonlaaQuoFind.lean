/- find, count. -/
import Derived.Test.YtcemlacfldonlaaQuoSpec
namespace Go.Proofs.Ytcemlacfldonlaa
open Go.RowKit
/-- Where a node's target stands. -/
def FindPost (A : Option Addr) (L : List Tg) (n : Int) (v : Value) : Prop :=
  ((∀ x ∈ L, x.node ≠ n) ∧ v = .pointer none) ∨ ∃ (k : Nat) (hk : k < L.length) (blk o : Nat), A = some ⟨blk, o, none⟩ ∧ v = .pointer (some ⟨blk, o + k * 4, none⟩) ∧ L[k].node = n ∧ ∀ x ∈ L.take k, x.node ≠ n
section
variable {w : World}
set_option maxHeartbeats 2000000 in
theorem idxT_any (w : World) (A : Option Addr) (c : Nat) (ms : List Tg) (n : Int) (bx : Nat) (hb : w.cell? ⟨bx, 0, none⟩ = some (.int .i64 n)) (hbl : bx < w.heap.size) (h : ARow w w.heap.size A (ms.flatMap Tg.cells)) (hl : ms.length ≤ 1000000000) :
    Calls Try.prog 21 #[.slice A ms.length c, .func (.func 22) #[] #[.pointer (some ⟨bx, 0, none⟩)]] w fun e w' => (((∀ m ∈ ms, m.node ≠ n) ∧ e = .returned (.int .i64 (-1))) ∨ ∃ (k : Nat) (hk : k < ms.length), e = .returned (.int .i64 (k : Int)) ∧ ms[k].node = n ∧ ∀ m ∈ ms.take k, m.node ≠ n) ∧ Fr w.heap.size [] w w' := by
  go_enter Try.func21, Try.ntmps21
  go_wp2
  go_loopw [8] (fun i wr => ∃ k : Nat, k ≤ ms.length ∧ i = .int .i64 (k : Int) ∧ Fr w.heap.size [] w wr ∧ Hid (∀ m ∈ ms.take k, m.node ≠ n)) (fun i _ => ms.length - (intOf i).toNat)
  case atStart => exact ⟨0, by omega, rfl, Fr.refl _ _ _, Lib.hid (by simp)⟩
  case round =>
    obtain ⟨k, hk, rfl, hF, hno⟩ := hrel
    by_cases hlt : k < ms.length
    · obtain ⟨x, hx⟩ : ∃ x, Hid (x = ms[k]'hlt) := ⟨ms[k]'hlt, rfl⟩
      have hki : (k : Int) < ms.length := by omega
      obtain ⟨blk, o, rfl, hb1, d0, d1, d2, d3⟩ := tg_cells (h.fr hF (Nat.le_refl _) (by simp)) k hlt
      rw [← hx.out] at d0 d1 d2 d3
      have hc := findF_any wr x n bx ((hF.cell (p := ⟨bx, 0, none⟩) hbl (by simp)).trans hb) (Nat.lt_of_lt_of_le hbl hF.size)
      unfold Tg.val at hc
      obtain ⟨p, hp⟩ : ∃ p, pcV x.cell = p := ⟨_, rfl⟩
      rw [hp] at hc d3
      obtain ⟨b, hpb⟩ : ∃ b, decide (x.node = n) = b := ⟨_, rfl⟩
      rw [hpb] at hc
      replace hpb : Hid (decide (x.node = n) = b) := hpb
      clear hp
      cases b
      · go_wp2_with (go_at_call 22; (with_reducible refine hc.mono ?_); rintro e w2 ⟨rfl, f2⟩)
        go_roundw
        case rel =>
          refine ⟨k + 1, by omega, by go_num, hF.trans (f2.mono hF.size (by simp)), Lib.hid fun m hm => ?_⟩
          rw [List.take_succ_eq_append_getElem hlt, List.mem_append] at hm
          rcases hm with hm | hm
          · exact hno.out m hm
          · simp only [List.mem_singleton] at hm
            rw [hm, ← hx.out]; exact of_decide_eq_false hpb.out
        case measure => simp [intOf]; omega
      · go_wp2_with (go_at_call 22; (with_reducible refine hc.mono ?_); rintro e w2 ⟨rfl, f2⟩)
        go_ret
        exact ⟨.inr ⟨k, hlt, rfl, by rw [← hx.out]; exact of_decide_eq_true hpb.out, hno.out⟩, hF.trans (f2.mono hF.size (by simp))⟩
    · have hki : ¬ ((k : Int) < ms.length) := by omega
      go_wp2
      go_ret
      refine ⟨.inl ⟨fun m hm => hno.out m (by rw [List.take_of_length_le (by omega)]; exact hm), rfl⟩, hF⟩
set_option maxHeartbeats 2000000 in
theorem find_any {g ty c : Nat} {A : Option Addr} {L : List Tg} {rest : List Value} (h : Has w g ty (.slice A L.length c :: rest)) (hA : ARow w w.heap.size A (L.flatMap Tg.cells)) (hl : L.length ≤ 1000000000) (n : Int) :
    Calls Try.prog 16 #[.pointer (some ⟨g, 0, none⟩), .int .i64 n] w fun e w' => ∃ v, e = .returned v ∧ FindPost A L n v ∧ Fr w.heap.size [] w w' := by
  have f1 := (Fr.refl w.heap.size [] w).alloc (Nat.le_refl _) (.cells #[.int .i64 n] 3)
  have hbx := (Has.new w 3 [.int .i64 n]).cell 0
  have hi := idxT_any (w.alloc (.cells #[.int .i64 n] 3)) A c L n w.heap.size hbx (by simp) ((hA.fr f1 (Nat.le_refl _) (by simp)).mono f1.size) hl
  have c0 : w.cell? ⟨g, 0, none⟩ = some (.slice A L.length c) := h.cell 0
  have hlt := h.lt
  have c1 := (f1.cell (p := ⟨g, 0, none⟩) hlt (by simp)).trans c0
  go_enter Try.func16, Try.ntmps16
  go_upto_region 2 with (go_at_call 21; (with_reducible refine hi.mono ?_); rintro e w2 ⟨⟨hno, rfl⟩ | ⟨k, hk, rfl, hpk, hbef⟩, f2⟩)
  · have f3 := f1.trans (f2.mono f1.size (by simp))
    go_wp2
    go_ret
    exact ⟨_, rfl, .inl ⟨hno, rfl⟩, f3⟩
  · have f3 := f1.trans (f2.mono f1.size (by simp))
    have c2 := (f3.cell (p := ⟨g, 0, none⟩) hlt (by simp)).trans c0
    obtain ⟨blk, o, rfl, -⟩ := tg_cells hA k hk
    have hki : (k : Int) < L.length := by omega
    have hk0 : decide ((k : Int) < 0) = false := decide_eq_false (by omega)
    clear hi
    go_wp2
    go_ret
    exact ⟨_, rfl, .inr ⟨k, hk, blk, o, rfl, rfl, hpk, hbef⟩, f3⟩
end
end Go.Proofs.Ytcemlacfldonlaa
