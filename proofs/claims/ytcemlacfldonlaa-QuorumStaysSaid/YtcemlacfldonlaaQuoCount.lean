/- count, Verdict. -/
import Derived.Test.YtcemlacfldonlaaQuoFind
namespace Go.Proofs.Ytcemlacfldonlaa
open Go.RowKit
def cntB (what : Int) (x : Tg) : Bool := decide (x.said = what)
def cnpB (what : Int) (x : Tg) : Bool := decide (x.said = what) && decide (x.node = x.home)
def cntN (what : Int) (L : List Tg) : Nat := (L.filter (cntB what)).length
def cnpN (what : Int) (L : List Tg) : Nat := (L.filter (cnpB what)).length
theorem cnt_le (what : Int) (L : List Tg) : cntN what L ≤ L.length := List.length_filter_le _ _
theorem cnp_le (what : Int) (L : List Tg) : cnpN what L ≤ L.length := List.length_filter_le _ _
theorem filter_step {α : Type} (p : α → Bool) (L : List α) (k : Nat) (hk : k < L.length) : ((L.take (k + 1)).filter p).length = ((L.take k).filter p).length + if p L[k] = true then 1 else 0 := by
  rw [List.take_succ_eq_append_getElem hk, List.filter_append, List.length_append]
  congr 1
  by_cases h : p L[k] = true
  · rw [if_pos h]; simp [h]
  · rw [if_neg h]; simp [h]
section
variable {w : World}
set_option maxHeartbeats 2000000 in
theorem count_any {g ty c : Nat} {A : Option Addr} {L : List Tg} {rest : List Value} (h : Has w g ty (.slice A L.length c :: rest)) (hA : ARow w w.heap.size A (L.flatMap Tg.cells)) (hl : L.length ≤ 1000000000) (what : Int) :
    Calls Try.prog 17 #[.pointer (some ⟨g, 0, none⟩), .int .i64 what] w fun e w' => e = .returned (.tuple #[.int .i64 (cntN what L : Int), .int .i64 (cnpN what L : Int)]) ∧ Fr w.heap.size [] w w' := by
  have c0 : w.cell? ⟨g, 0, none⟩ = some (.slice A L.length c) := h.cell 0
  go_enter Try.func17, Try.ntmps17
  go_wp2
  go_loopw [6, 7, 15] (fun a b i wr => ∃ (k x y : Nat), k ≤ L.length ∧ i = .int .i64 (k : Int) ∧ a = .int .i64 (x : Int) ∧ b = .int .i64 (y : Int) ∧ x ≤ k ∧ y ≤ k ∧ Fr w.heap.size [] w wr ∧ Hid (x = cntN what (L.take k)) ∧ Hid (y = cnpN what (L.take k))) (fun _ _ i _ => L.length - (intOf i).toNat)
  case atStart => exact ⟨0, 0, 0, by omega, rfl, rfl, rfl, by omega, by omega, Fr.refl _ _ _, Lib.hid rfl, Lib.hid rfl⟩
  case round =>
    obtain ⟨k, x, y, hk, rfl, rfl, rfl, hx, hy, hF, h1, h2⟩ := hrel
    by_cases hlt : k < L.length
    · have hki : (k : Int) < L.length := by omega
      obtain ⟨t, ht⟩ : ∃ t, Hid (t = L[k]'hlt) := ⟨L[k]'hlt, rfl⟩
      obtain ⟨blk, o, rfl, hb1, d0, d1, d2, d3⟩ := tg_cells (hA.fr hF (Nat.le_refl _) (by simp)) k hlt
      rw [← ht.out] at d0 d1 d2 d3
      have s1 := filter_step (cntB what) L k hlt
      have s2 := filter_step (cnpB what) L k hlt
      rw [← ht.out] at s1 s2
      have e1 : Hid (cntN what (L.take (k + 1)) = x + if cntB what t = true then 1 else 0) := by refine Lib.hid ?_; rw [h1.out]; exact s1
      have e2 : Hid (cnpN what (L.take (k + 1)) = y + if cnpB what t = true then 1 else 0) := by refine Lib.hid ?_; rw [h2.out]; exact s2
      clear s1 s2 h1 h2
      have V := Has.new wr 62 t.cells
      have fA := hF.alloc hF.size (.cells t.cells.toArray 62)
      have cP := prime_any (wr.alloc (.cells t.cells.toArray 62)) t
      unfold Tg.cells Tg.val at *
      obtain ⟨p, hp⟩ : ∃ p, pcV t.cell = p := ⟨_, rfl⟩
      rw [hp] at d3 V fA cP
      obtain ⟨bs, hbs⟩ : ∃ bs, decide (t.said = what) = bs := ⟨_, rfl⟩
      have hbs2 : (t.said == what) = bs := by rw [← hbs]; rfl
      obtain ⟨bp, hbp⟩ : ∃ bp, decide (t.node = t.home) = bp := ⟨_, rfl⟩
      rw [hbp] at cP
      have v0 := V.cell 0
      have v1 := V.cell 1
      have v2 := V.cell 2
      have v3 := V.cell 3
      have q1 : cntB what t = bs := hbs
      have q2 : cnpB what t = (bs && bp) := by unfold cnpB; rw [hbs, hbp]
      rw [q1] at e1
      rw [q2] at e2
      clear hp hbs hbp q1 q2 V
      cases bs
      · have hne : (t.said != what) = true := by simp only [bne, hbs2, Bool.not_false]
        go_wp2
        exact ⟨⟨k + 1, x, y, by omega, by go_num, rfl, rfl, by omega, by omega, fA, Lib.hid (by rw [e1.out]; rfl), Lib.hid (by rw [e2.out]; rfl)⟩, by simp [intOf]; omega⟩
      · have hne : (t.said != what) = false := by simp only [bne, hbs2, Bool.not_true]
        cases bp
        · go_wp2_with (go_at_call 23; (with_reducible refine cP.mono ?_); rintro e w2 ⟨rfl, f2⟩)
          exact ⟨⟨k + 1, x + 1, y, by omega, by go_num, by go_num, rfl, by omega, by omega, fA.trans (f2.mono fA.size (by simp)), Lib.hid (by rw [e1.out]; rfl), Lib.hid (by rw [e2.out]; rfl)⟩, by simp [intOf]; omega⟩
        · go_wp2_with (go_at_call 23; (with_reducible refine cP.mono ?_); rintro e w2 ⟨rfl, f2⟩)
          exact ⟨⟨k + 1, x + 1, y + 1, by omega, by go_num, by go_num, by go_num, by omega, by omega, fA.trans (f2.mono fA.size (by simp)), Lib.hid (by rw [e1.out]; rfl), Lib.hid (by rw [e2.out]; rfl)⟩, by simp [intOf]; omega⟩
    · obtain rfl : k = L.length := by omega
      have hki : ¬ ((L.length : Int) < L.length) := by omega
      rw [List.take_length] at h1 h2
      go_wp2
      refine bodyPost_ret (v := .tuple #[.int .i64 (x : Int), .int .i64 (y : Int)]) (by simp [results, Try.results17, go_sem]) rfl ⟨by rw [← h1.out, ← h2.out], hF⟩
end
end Go.Proofs.Ytcemlacfldonlaa
