/- awake. -/
import Derived.Test.YtcemlacfldonlaaQuoAwC
namespace Go.Proofs.Ytcemlacfldonlaa
open Go.RowKit
open Ck
set_option linter.unusedSimpArgs false
set_option maxHeartbeats 20000000 in
set_option maxRecDepth 100000 in
theorem awake_any (w : World) : Calls Try.prog 5 #[] w fun e w' => e = .returned (.bool true) ∧ Fr w.heap.size [] w w' := by
  go_enter Try.func5, Try.ntmps5
  go_upto_region 2 with (first
    | (go_at_call 6; (with_reducible refine (new3 w1 _ _ 2 1 hA1).mono ?_); rintro e w2 ⟨rfl, F1, T1, f2, hF1⟩)
    | (go_at_call 10; (with_reducible refine (three_any w).mono ?_); rintro e w1 ⟨⟨A1, c1, rfl, hA1⟩, f1⟩))
  have E2 := f1.into f1.size f2 (by simp)
  have hG1 : ∀ q ∈ F1, w.heap.size ≤ q := fun q hq => Nat.le_trans f1.size (hF1 q hq)
  obtain ⟨g1, hg1⟩ : ∃ g1, g1 = w1.heap.size := ⟨_, rfl⟩
  rw [← hg1] at T1 ⊢
  clear hA1 hF1 f2 f1 hg1
  go_upto_region 3 with (go_at_call 8; (with_reducible refine (yesC T1 (by decide) (by decide) 4 (b := true) (L' := LA1) (by decide) (by decide)).mono ?_); rintro e w3 ⟨rfl, T2, f3⟩)
  have E3 := E2.into E2.size f3 hG1
  clear E2 f3 T1
  go_upto_region 4 with (go_at_call 7; (with_reducible refine (verdC T2 (by decide) (v := 0) (by decide)).mono ?_); rintro e w4 ⟨rfl, f4⟩)
  have E4 := E3.into E3.size f4 (by simp)
  have T3 := T2.fr0 f4
  clear E3 T2 f4
  go_upto_region 5 with (go_at_call 8; (with_reducible refine (yesC T3 (by decide) (by decide) 4 (b := false) (L' := LA1) (by decide) (by decide)).mono ?_); rintro e w5 ⟨rfl, T4, f5⟩)
  have E5 := E4.into E4.size f5 hG1
  clear E4 f5 T3
  go_upto_region 6 with (go_at_call 8; (with_reducible refine (yesC T4 (by decide) (by decide) 3 (b := true) (L' := LA2) (by decide) (by decide)).mono ?_); rintro e w6 ⟨rfl, T5, f6⟩)
  have E6 := E5.into E5.size f6 hG1
  clear E5 f6 T4
  go_upto_region 7 with (first
    | (go_at_call 6; (with_reducible refine (new3 w7 _ _ 2 2 hA2).mono ?_); rintro e w8 ⟨rfl, F2, U1, f8, hF2⟩)
    | (go_at_call 10; (with_reducible refine (three_any w6).mono ?_); rintro e w7 ⟨⟨A2, c2, rfl, hA2⟩, f7⟩))
  have E7 := E6.into E6.size f7 (by simp)
  have E8 := E7.into E7.size f8 (by simp)
  have T6 := (T5.fr0 f7).fr0 f8
  have hG2 : ∀ q ∈ F2, w.heap.size ≤ q := fun q hq => Nat.le_trans E7.size (hF2 q hq)
  have hD2 : ∀ q ∈ F1, q ∉ F2 := fun q hq hm => by have := (T5.fr0 f7).lt q hq; have := hF2 q hm; omega
  obtain ⟨g2, hg2⟩ : ∃ g2, g2 = w7.heap.size := ⟨_, rfl⟩
  rw [← hg2] at U1 ⊢
  clear hA2 hF2 f8 f7 hg2 E6 E7 T5
  go_upto_region 8 with (go_at_call 9; (with_reducible refine (noC U1 (by decide) (by decide) 3 (b := true) (L' := LB1) (by decide) (by decide)).mono ?_); rintro e w9 ⟨rfl, U2, f9⟩)
  have E9 := E8.into E8.size f9 hG2
  have T7 := T6.fr f9 (fun q hq => ⟨T6.lt q hq, hD2 q hq⟩)
  clear E8 f9 U1 T6
  go_upto_region 9 with (first
    | (go_at_call 11; (with_reducible refine (newR3 w10 _ _ 2 1 hA3).mono ?_); rintro e w11 ⟨g3, F3, rfl, R1, f11, hF3⟩)
    | (go_at_call 10; (with_reducible refine (three_any w9).mono ?_); rintro e w10 ⟨⟨A3, c3, rfl, hA3⟩, f10⟩))
  have E10 := E9.into E9.size f10 (by simp)
  have E11 := E10.into E10.size f11 (by simp)
  have T8 := (T7.fr0 f10).fr0 f11
  have U3 := (U2.fr0 f10).fr0 f11
  have hG3 : ∀ q ∈ F3, w.heap.size ≤ q := fun q hq => Nat.le_trans E10.size (hF3 q hq)
  have hD31 : ∀ q ∈ F1, q ∉ F3 := fun q hq hm => by have := (T7.fr0 f10).lt q hq; have := hF3 q hm; omega
  have hD32 : ∀ q ∈ F2, q ∉ F3 := fun q hq hm => by have := (U2.fr0 f10).lt q hq; have := hF3 q hm; omega
  clear hA3 hF3 f11 f10 E9 E10 T7 U2
  go_upto_region 12 with (first
    | (go_at_call 12; (with_reducible refine (gotC (R1.fr0 f12)).mono ?_); rintro e w13 ⟨rfl, R2, X1, f13⟩)
    | (go_at_call 13; (with_reducible refine (cellNew_any w11 2).mono ?_); rintro e w12 ⟨rfl, f12⟩))
  have E12 := E11.into E11.size f12 (by simp)
  have E13 := E12.into E12.size f13 hG3
  have T9 := (T8.fr0 f12).fr f13 (fun q hq => ⟨(T8.fr0 f12).lt q hq, hD31 q hq⟩)
  have U4 := (U3.fr0 f12).fr f13 (fun q hq => ⟨(U3.fr0 f12).lt q hq, hD32 q hq⟩)
  have hb3 : w12.heap.size ∉ F3 := fun hm => by have := (R1.fr0 f12).lt _ hm; omega
  obtain ⟨bx, hbx⟩ : ∃ bx, bx = w12.heap.size := ⟨_, rfl⟩
  rw [← hbx] at R2 X1 hb3
  clear f12 f13 E11 E12 R1 T8 U3 hbx
  have hl3 : (LC1 bx).length ≤ 1000000000 := by show 3 ≤ _; omega
  have hn3 : ((LC1 bx).map Tg.node).Nodup := show ([1, 4, 3] : List Int).Nodup by decide
  have ha3 : (LC1 bx).any (newB 3) = true := rfl
  have hs3 : sayL 1 3 (LC1 bx) = LC2 bx := rfl
  go_upto_region 13 with (go_at_call 14; (with_reducible refine (noneC R2 hl3 hn3 3 (b := true) (L' := LC2 bx) ha3 hs3).mono ?_); rintro e w14 ⟨rfl, R3, f14⟩)
  have E14 := E13.into E13.size f14 hG3
  have T10 := T9.fr f14 (fun q hq => ⟨T9.lt q hq, hD31 q hq⟩)
  have U5 := U4.fr f14 (fun q hq => ⟨U4.lt q hq, hD32 q hq⟩)
  have X2 := X1.fr f14 X1.lt hb3
  clear f14 E13 R2 T9 U4 X1
  go_upto_region 14 with (go_at_call 15; (with_reducible refine (repC R3 X2).mono ?_); rintro e w15 ⟨⟨r, o, c4, rfl, hc4, hr4⟩, f15⟩)
  have E15 := E14.into E14.size f15 (by simp)
  have T11 := T10.fr0 f15
  have U6 := U5.fr0 f15
  clear f15 E14 R3 X2 T10 U5
  go_wp2_with (first
    | (go_at_call 7; (with_reducible refine (verdC N1 (by decide) (v := 1) (by decide)).mono ?_); rintro e w19 ⟨rfl, f19⟩)
    | (go_at_call 6; (with_reducible refine (new0 w17 0 0).mono ?_); rintro e w18 ⟨rfl, F4, N1, f18, hF4⟩)
    | (go_at_call 7; (with_reducible refine (verdC (U6.fr0 f16) (by decide) (v := 2) (by decide)).mono ?_); rintro e w17 ⟨rfl, f17⟩; have hc5 := (f17.cell (p := ⟨r, o, none⟩) (Nat.lt_of_lt_of_le hr4 f16.size) List.not_mem_nil).trans ((f16.cell (p := ⟨r, o, none⟩) hr4 List.not_mem_nil).trans hc4))
    | (go_at_call 7; (with_reducible refine (verdC T11 (by decide) (v := 1) (by decide)).mono ?_); rintro e w16 ⟨rfl, f16⟩))
  go_ret
  have E16 := E15.into E15.size f16 (by simp)
  have E17 := E16.into E16.size f17 (by simp)
  have E18 := E17.into E17.size f18 (by simp)
  exact ⟨rfl, E18.into E18.size f19 (by simp)⟩
end Go.Proofs.Ytcemlacfldonlaa
