/- store.join, Join of stores that have nothing. -/
import Derived.Test.YtcemlacfldonlaaQuoSame
import Derived.Deep.CutRange
import Derived.Deep.RegionHeld3
namespace Go.Proofs.Ytcemlacfldonlaa
open Go.RowKit
theorem TwoS.alloc {B b1 b2 : Nat} {w W : World} (h : TwoS B b1 b2 w W) (hB : B ≤ W.heap.size) (blk : Obj) : TwoS B b1 b2 w (W.alloc blk) :=
  ⟨h.fr.alloc hB blk, h.one.alloc blk, h.two.alloc blk⟩
/-- What a drawn region keeps: the two boxes. -/
abbrev SJ (w W : World) : Prop := TwoS w.heap.size w.heap.size (w.heap.size + 1) w W ∧ W.cell? ⟨w.heap.size, 0, none⟩ = some (.slice none 0 0) ∧ W.cell? ⟨w.heap.size, 1, none⟩ = some (.slice none 0 0) ∧ W.cell? ⟨w.heap.size + 1, 0, none⟩ = some (.slice none 0 0) ∧ W.cell? ⟨w.heap.size + 1, 1, none⟩ = some (.slice none 0 0) ∧ Has W (w.heap.size + 1 + 1) 35 [.slice none 0 0, .slice none 0 0]
theorem sj_of {w W : World} (h : TwoS w.heap.size w.heap.size (w.heap.size + 1) w W) (k : Has W (w.heap.size + 1 + 1) 35 [.slice none 0 0, .slice none 0 0]) : SJ w W := ⟨h, h.cells.1, h.cells.2.1, h.cells.2.2.1, h.cells.2.2.2, k⟩
theorem SJ.has {w W : World} (h : SJ w W) : Has W (w.heap.size + 1 + 1) 35 [.slice none 0 0, .slice none 0 0] := h.2.2.2.2.2
theorem sj_step {w W W' : World} (f : Fr W.heap.size [] W W') (h : SJ w W) : SJ w W' := sj_of (h.1.step f h.1.fr.size) (h.has.fr f h.has.lt (by simp))
theorem sj_alloc {w W : World} (h : SJ w W) (o : Obj) : SJ w (W.alloc o) := sj_of (h.1.alloc h.1.fr.size o) (h.has.alloc o)
theorem sj_set2 {w W : World} {b : Nat} (h : SJ w W) (hb : w.heap.size + 1 + 1 < b) (v v' : Value) : SJ w ((W.setCell ⟨b, 0, none⟩ v).setCell ⟨b, 1, none⟩ v') :=
  sj_of ⟨(h.1.fr.setCell (.inr (by simp; omega)) _).setCell (.inr (by simp; omega)) _, (h.1.one.far (by simp; omega) _).far (by simp; omega) _, (h.1.two.far (by simp; omega) _).far (by simp; omega) _⟩ ((h.has.far (by simp; omega) _).far (by simp; omega) _)
section
variable (w : World)
set_option maxHeartbeats 1000000
set_option maxRecDepth 100000
set_option linter.unusedSimpArgs false
theorem kept_nil (A : Option Addr) (n c : Nat) : Calls Try.prog 54 #[.slice none 0 0, .slice none 0 0, .slice A n c] w fun e w' => e = .returned (.slice none 0 0) ∧ Fr w.heap.size [] w w' := by
  have hc := fun W => eClone_nil W
  have hd := fun W v => eDel_nil W v
  have f1 := ((Fr.refl w.heap.size [] w).alloc (Nat.le_refl _) (.cells #[.slice none 0 0] 32)).alloc (by simp) (.cells #[.slice A n c] 31)
  go_enter Try.func54, Try.ntmps54
  go_wp2_with (first
    | (go_at_call 55; (refine (hd _ _).mono ?_); rintro e w2 ⟨rfl, rfl⟩)
    | (go_at_call 56; (refine (hc _).mono ?_); rintro e w2 ⟨rfl, rfl⟩))
  go_ret
  exact ⟨rfl, f1⟩
theorem concat_at (W : World) : Calls Try.prog 60 #[.slice (some ⟨W.heap.size, 0, none⟩) 2 2] ((W.alloc (.cells #[.slice none 0 0, .slice none 0 0] 32)).alloc (.cells #[.slice none 0 0, .slice none 0 0] 35)) fun e w' => e = .returned (.slice none 0 0) ∧ Fr ((W.alloc (.cells #[.slice none 0 0, .slice none 0 0] 32)).alloc (.cells #[.slice none 0 0, .slice none 0 0] 35)).heap.size [] ((W.alloc (.cells #[.slice none 0 0, .slice none 0 0] 32)).alloc (.cells #[.slice none 0 0, .slice none 0 0] 35)) w' ∧
    w'.cell? ⟨W.heap.size + 1, 0, none⟩ = some (.slice none 0 0) ∧ w'.cell? ⟨W.heap.size + 1, 1, none⟩ = some (.slice none 0 0) ∧ w'.frozen? ⟨W.heap.size + 1, 0, none⟩ = false ∧ w'.frozen? ⟨W.heap.size + 1, 1, none⟩ = false ∧ Has w' (W.heap.size + 1) 35 [.slice none 0 0, .slice none 0 0] := by
  have V := (Has.new W 32 [.slice none 0 0, .slice none 0 0]).alloc (.cells #[.slice none 0 0, .slice none 0 0] 35)
  have U := Has.new (W.alloc (.cells #[.slice none 0 0, .slice none 0 0] 32)) 35 [.slice none 0 0, .slice none 0 0]
  rw [show (W.alloc (.cells #[.slice none 0 0, .slice none 0 0] 32)).heap.size = W.heap.size + 1 by simp] at U
  refine (eConcat_nil _ W.heap.size 2 (V.cell 0) (V.cell 1)).mono fun e w' ⟨h1, h2⟩ => ?_
  have U2 := U.fr h2 U.lt (by simp)
  exact ⟨h1, h2, U2.cell 0, U2.cell 1, U2.frozen 0, U2.frozen 1, U2⟩
theorem concat_at0 (W : World) : Calls Try.prog 60 #[.slice (some ⟨W.heap.size, 0, none⟩) 2 2] (W.alloc (.cells #[.slice none 0 0, .slice none 0 0] 32)) fun e w' => e = .returned (.slice none 0 0) ∧ Fr (W.alloc (.cells #[.slice none 0 0, .slice none 0 0] 32)).heap.size [] (W.alloc (.cells #[.slice none 0 0, .slice none 0 0] 32)) w' := by
  have V := Has.new W 32 [.slice none 0 0, .slice none 0 0]
  exact eConcat_nil _ W.heap.size 2 (V.cell 0) (V.cell 1)
theorem concat_at2 (W : World) : Calls Try.prog 60 #[.slice (some ⟨W.heap.size + 1, 0, none⟩) 2 2] ((W.alloc (.cells #[.slice none 0 0, .slice none 0 0] 35)).alloc (.cells #[.slice none 0 0, .slice none 0 0] 32)) fun e w' => e = .returned (.slice none 0 0) ∧ Fr ((W.alloc (.cells #[.slice none 0 0, .slice none 0 0] 35)).alloc (.cells #[.slice none 0 0, .slice none 0 0] 32)).heap.size [] ((W.alloc (.cells #[.slice none 0 0, .slice none 0 0] 35)).alloc (.cells #[.slice none 0 0, .slice none 0 0] 32)) w' ∧
    w'.cell? ⟨W.heap.size, 0, none⟩ = some (.slice none 0 0) ∧ w'.cell? ⟨W.heap.size, 1, none⟩ = some (.slice none 0 0) ∧ w'.frozen? ⟨W.heap.size, 0, none⟩ = false ∧ w'.frozen? ⟨W.heap.size, 1, none⟩ = false ∧ Has w' W.heap.size 35 [.slice none 0 0, .slice none 0 0] := by
  have U := (Has.new W 35 [.slice none 0 0, .slice none 0 0]).alloc (.cells #[.slice none 0 0, .slice none 0 0] 32)
  have V := Has.new (W.alloc (.cells #[.slice none 0 0, .slice none 0 0] 35)) 32 [.slice none 0 0, .slice none 0 0]
  rw [show (W.alloc (.cells #[.slice none 0 0, .slice none 0 0] 35)).heap.size = W.heap.size + 1 by simp] at V
  refine (eConcat_nil _ (W.heap.size + 1) 2 (V.cell 0) (V.cell 1)).mono fun e w' ⟨h1, h2⟩ => ?_
  have U2 := U.fr h2 U.lt (by simp)
  exact ⟨h1, h2, U2.cell 0, U2.cell 1, U2.frozen 0, U2.frozen 1, U2⟩
theorem join_nil (A B : Option Addr) (n m c d : Nat) : Calls Try.prog 40 #[.agg #[.slice none 0 0, .slice none 0 0], .slice A n c, .agg #[.slice none 0 0, .slice none 0 0], .slice B m d] w fun e w' => e = .returned (.agg #[.slice none 0 0, .slice none 0 0]) ∧ Fr w.heap.size [] w w' := by
  have V1 := ((Has.new w 35 [.slice none 0 0, .slice none 0 0]).alloc (.cells #[.slice none 0 0, .slice none 0 0] 35)).alloc (.cells #[.slice none 0 0, .slice none 0 0] 35)
  have V2 := (Has.new (w.alloc (.cells #[.slice none 0 0, .slice none 0 0] 35)) 35 [.slice none 0 0, .slice none 0 0]).alloc (.cells #[.slice none 0 0, .slice none 0 0] 35)
  rw [show (w.alloc (.cells #[.slice none 0 0, .slice none 0 0] 35)).heap.size = w.heap.size + 1 by simp] at V2
  have f1 := (((Fr.refl w.heap.size [] w).alloc (Nat.le_refl _) (.cells #[.slice none 0 0, .slice none 0 0] 35)).alloc (by simp) (.cells #[.slice none 0 0, .slice none 0 0] 35)).alloc (by simp; omega) (.cells #[.slice none 0 0, .slice none 0 0] 35)
  go_enter Try.func40, Try.ntmps40
  go_upto_region 2 with fail
  have V0 : Has (((w.alloc (.cells #[.slice none 0 0, .slice none 0 0] 35)).alloc (.cells #[.slice none 0 0, .slice none 0 0] 35)).alloc (.cells #[.slice none 0 0, .slice none 0 0] 35)) (w.heap.size + 1 + 1) 35 [.slice none 0 0, .slice none 0 0] := Has.new' _ _ _ (by simp)
  obtain ⟨W0, hW0⟩ : ∃ W0, W0 = ((w.alloc (.cells #[.slice none 0 0, .slice none 0 0] 35)).alloc (.cells #[.slice none 0 0, .slice none 0 0] 35)).alloc (.cells #[.slice none 0 0, .slice none 0 0] 35) := ⟨_, rfl⟩
  rw [← hW0] at V1 V2 V0 f1 ⊢
  have hs0 : w.heap.size + 3 ≤ W0.heap.size := by rw [hW0]; simp
  clear hW0
  have T : SJ w W0.drew := sj_of ⟨f1.drew, V1, V2⟩ V0
  have Ua : Has (W0.alloc (.cells #[.slice none 0 0, .slice none 0 0] 35)).drew W0.heap.size 35 [.slice none 0 0, .slice none 0 0] := Has.new W0 _ _
  have Ta : SJ w (W0.alloc (.cells #[.slice none 0 0, .slice none 0 0] 35)).drew := sj_of ⟨(f1.alloc f1.size _).drew, V1.alloc _, V2.alloc _⟩ (V0.alloc _)
  clear V1 V2 f1
  go_cut [10] from 14 to 30 (fun s10 wc => ∃ b, s10 = .pointer (some ⟨b, 0, none⟩) ∧ w.heap.size + 1 + 1 < b ∧ Has wc b 35 [.slice none 0 0, .slice none 0 0] ∧ SJ w wc)
  case first =>
    rename_i J K1 hJ hK1
    clear Ta
    go_region_held3 (fun W => TwoS w.heap.size w.heap.size (w.heap.size + 1) w W ∧ W.cell? ⟨w.heap.size, 0, none⟩ = some (.slice none 0 0) ∧ W.cell? ⟨w.heap.size, 1, none⟩ = some (.slice none 0 0) ∧ W.cell? ⟨w.heap.size + 1, 0, none⟩ = some (.slice none 0 0) ∧ W.cell? ⟨w.heap.size + 1, 1, none⟩ = some (.slice none 0 0) ∧ Has W (w.heap.size + 1 + 1) 35 [.slice none 0 0, .slice none 0 0])
      (first
        | assumption
        | exact sj_step (by assumption) (by assumption)
        | exact sj_set2 (by assumption) (by omega) _ _
        | exact sj_alloc (by assumption) _)
      (first
        | (go_at_call 60; (with_reducible refine (concat_at2 _).mono ?_); rintro e w6 ⟨rfl, f6, g0, g1, g2, g3, U⟩; have hs6 := f6.size; simp only [World.size_alloc, World.size_drew] at hs6)
        | (go_at_call 60; (with_reducible refine (concat_at _).mono ?_); rintro e w6 ⟨rfl, f6, g0, g1, g2, g3, U⟩; have hs6 := f6.size; simp only [World.size_alloc, World.size_drew] at hs6)
        | (go_at_call 60; (with_reducible refine (concat_at0 _).mono ?_); rintro e w6 ⟨rfl, f6⟩; have U := (U.alloc _).fr f6 (U.alloc _).lt List.not_mem_nil; have g0 := U.cell 0; have g1 := U.cell 1; have g2 := U.frozen 0; have g3 := U.frozen 1; have hs6 := f6.size; simp only [World.size_alloc, World.size_drew] at hs6)
        | (go_at_call 60; (with_reducible refine (concat_at0 _).mono ?_); rintro e w6 ⟨rfl, f6⟩; have hs6 := f6.size; simp only [World.size_alloc, World.size_drew] at hs6)
        | (go_at_call 54; (with_reducible refine (kept_nil _ _ _ _).mono ?_); rintro e w5 ⟨rfl, f5⟩; have U := U.fr f5 U.lt List.not_mem_nil; have hs5 := f5.size)
        | (go_at_call 54; (with_reducible refine (kept_nil _ _ _ _).mono ?_); rintro e w5 ⟨rfl, f5⟩; have U := Ua.fr f5 Ua.lt List.not_mem_nil; have hs5 := f5.size; simp only [World.size_alloc, World.size_drew] at hs5)
        | (go_at_call 54; (with_reducible refine (kept_nil _ _ _ _).mono ?_); rintro e w5 ⟨rfl, f5⟩; have U := (Has.new _ 35 [.slice none 0 0, .slice none 0 0]).fr f5 (Has.new _ _ _).lt List.not_mem_nil; have hs5 := f5.size; simp only [World.size_alloc, World.size_drew] at hs5)
        | (go_at_call 54; (with_reducible refine (kept_nil _ _ _ _).mono ?_); rintro e w5 ⟨rfl, f5⟩; have hs5 := f5.size; try simp only [World.size_drew] at hs5))
    all_goals (
      refine hK1 _ _ (Met.intro (hJ _ _ ?_))
      repeat apply Exists.intro
      refine ⟨⟨_, rfl, ?_, ?_, ?_⟩, rfl⟩
      · omega
      · first
          | exact Has.new _ _ _
          | exact (U.set 0 _).set 1 _
      · assumption)
  case rest =>
    obtain ⟨b, rfl, hb, U, T1⟩ := hcut
    have d0 := U.cell 0
    have d1 := U.cell 1
    obtain ⟨-, e0, e1, e2, e3, -⟩ := id T1
    have T2 := sj_alloc T1 (.cells #[.slice none 0 0, .slice none 0 0] 33)
    have R := Has.new wc 33 [.slice none 0 0, .slice none 0 0]
    have hq := fConcat_nil (wc.alloc (.cells #[.slice none 0 0, .slice none 0 0] 33)) wc.heap.size 2 (R.cell 0) (R.cell 1)
    have hm := fun W a b c => fMerged_nil W a b c
    have U2 := U.alloc (.cells #[.slice none 0 0, .slice none 0 0] 33)
    go_wp2_with (first
      | (go_at_call 61; (with_reducible refine (hm _ _ _ _).mono ?_); rintro e w3 ⟨rfl, rfl⟩)
      | (go_at_call 62; (with_reducible refine hq.mono ?_); rintro e w2 ⟨rfl, f2⟩; have T3 := sj_step f2 T2; have U3 := U2.fr f2 U2.lt (by simp)))
    have d4 := U3.cell 0
    have d5 := U3.cell 1
    have V3 := T3.has
    have v0 := V3.cell 0
    have v1 := V3.cell 1
    have z0 := V3.frozen 0
    have z1 := V3.frozen 1
    go_loopw [40] (fun i wr => i = .int .i64 0 ∧ wr = w2) (fun _ _ => 0)
    case atStart => exact ⟨rfl, rfl⟩
    case round =>
      obtain ⟨rfl, rfl⟩ := hrel
      go_wp2
      have V4 := (V3.set 0 (.slice none 0 0)).set 1 (.slice none 0 0)
      have q0 := V4.cell 0
      have q1 := V4.cell 1
      refine bodyPost_ret (v := .agg #[.slice none 0 0, .slice none 0 0]) (by simp [results, Try.results40, go_sem, q0, q1]) rfl ⟨rfl, (T3.1.fr.setCell (p := ⟨w.heap.size + 1 + 1, 0, none⟩) (.inr (Nat.le_trans (Nat.le_succ _) (Nat.le_succ _))) _).setCell (p := ⟨w.heap.size + 1 + 1, 1, none⟩) (.inr (Nat.le_trans (Nat.le_succ _) (Nat.le_succ _))) _⟩
end
end Go.Proofs.Ytcemlacfldonlaa
