/- The closure that compares two names. -/
import Derived.Test.YtkclpkepmckjgaaWhlCmp
import Derived.Sort.Grow
import Derived.Deep.CutRange
namespace Go.Proofs.Ytkclpkepmckjgaa
open Go.RowKit Go.Maps Go.Sort
open Wh
theorem grow_of {W W' : World} (h : Fr W.heap.size [] W W') (hd : W.drawn ≤ W'.drawn) : ∃ q os, W' = grow (W.drewN q) os := by
  refine ⟨W'.drawn - W.drawn, W'.heap.extract W.heap.size W'.heap.size, ?_⟩
  have e : W'.heap = W.heap ++ W'.heap.extract W.heap.size W'.heap.size := by
    apply Array.ext_getElem?
    intro i
    by_cases hi : i < W.heap.size
    · rw [Array.getElem?_append_left hi, h.block i hi (by simp)]
    · rw [Array.getElem?_append_right (by omega), Array.getElem?_extract]
      by_cases hj : i < W'.heap.size
      · rw [if_pos (by omega)]
        congr 1
        omega
      · rw [if_neg (by omega), Array.getElem?_eq_none (by omega)]
  obtain ⟨h1, t1, d1, o1, p1⟩ := W
  obtain ⟨h2, t2, d2, o2, p2⟩ := W'
  obtain ⟨rfl, rfl, rfl, _, _⟩ := h
  simp only [grow, World.drewN] at *
  congr 1
  omega
theorem cell_drew (w : World) (a : Addr) : w.drew.cell? a = w.cell? a := rfl
theorem cell_new (V : World) (t : TypeId) (a b : Value) (g i : Nat) (hg : g = V.heap.size) : (V.alloc (.cells #[a, b] t)).cell? ⟨g, i, none⟩ = [a, b][i]? := (Has.new' V t [a, b] hg).cell i
theorem cmp_still (w : World) (x y : Int) : Calls Try.prog 25 #[.int .i64 x, .int .i64 y] w fun e w' => e = .returned (.int .i64 (cmpI x y)) ∧ w' = w :=
  (cmp_int w x y).mono fun _ _ h => ⟨h.1, h.2.symm⟩
def Wh.cfD (D : List (Key × Tm)) (a b : Key) : Int := orI (cmpI ((getL D a).getD zT).at_ ((getL D b).getD zT).at_) (cmpI ((getL D a).getD zT).ord ((getL D b).getD zT).ord)
theorem two_rows (w : World) (t : TypeId) (c d : List Value) : Has ((w.alloc (.cells c.toArray t)).alloc (.cells d.toArray t)).drew w.heap.size t c ∧ Has ((w.alloc (.cells c.toArray t)).alloc (.cells d.toArray t)).drew (w.heap.size + 1) t d :=
  ⟨((Has.new w t c).alloc _).drew, (Has.new' _ t d (by simp)).drew⟩
set_option maxHeartbeats 2000000 in
theorem clos_any (w : World) (bx g : Nat) (mp : Value) (F : List Nat) (D : List (Key × Tm)) (hb : w.cell? ⟨bx, 0, none⟩ = some (.pointer (some ⟨g, 0, none⟩))) (hg : w.cell? ⟨g, 0, none⟩ = some mp) (hbl : bx < w.heap.size) (hgl : g < w.heap.size) (hm : MapOf w mp F D) (hF : ∀ k ∈ F, k < w.heap.size) (a b : Key) :
    Calls Try.prog 23 #[KV a, KV b, .pointer (some ⟨bx, 0, none⟩)] w fun e w' => e = .returned (.int .i64 (cfD D a b)) ∧ ∃ q os, w' = grow (w.drewN q) os := by
  unfold cfD
  obtain ⟨x, hx⟩ : ∃ x, (getL D a).getD zT = x := ⟨_, rfl⟩
  obtain ⟨y, hy⟩ : ∃ y, (getL D b).getD zT = y := ⟨_, rfl⟩
  have ha : ∀ W, Fr w.heap.size [] w W → (Instr.lookup 47 mp (KV a) false).run Try.prog W = .ok (TV x) W := fun W hW => by rw [timers_look (hm.fr hF (fun _ _ => by simp) hW) a, hx]
  have hbb : ∀ W, Fr w.heap.size [] w W → (Instr.lookup 47 mp (KV b) false).run Try.prog W = .ok (TV y) W := fun W hW => by rw [timers_look (hm.fr hF (fun _ _ => by simp) hW) b, hy]
  have f0 := Fr.refl w.heap.size [] w
  have f1 := fun c => f0.alloc (Nat.le_refl _) (.cells c 55)
  have f2 := fun c d => (f1 c).alloc (by simp) (.cells d 55)
  have a0 := ha _ f0.drew
  have a1 := fun c => ha _ (f1 c).drew
  have a2 := fun c d => ha _ (f2 c d).drew
  have b0 := hbb _ f0.drew
  have b1 := fun c => hbb _ (f1 c).drew
  have b2 := fun c d => hbb _ (f2 c d).drew
  rw [hx, hy]
  clear hm hx hy ha hbb
  obtain ⟨x0, x1⟩ := x
  obtain ⟨y0, y1⟩ := y
  unfold TV at *
  go_enter Try.func23, Try.ntmps23
  go_upto_region 1 with fail
  go_cut [6, 7] from 6 to 19 (fun s6 s7 wc => ∃ gx gy, s6 = .pointer (some ⟨gx, 0, none⟩) ∧ s7 = .pointer (some ⟨gy, 0, none⟩) ∧ (wc.cell? ⟨gx, 0, none⟩ = some (.int .i64 x0) ∧ wc.cell? ⟨gx, 1, none⟩ = some (.int .i64 x1)) ∧ (wc.cell? ⟨gy, 0, none⟩ = some (.int .i64 y0) ∧ wc.cell? ⟨gy, 1, none⟩ = some (.int .i64 y1)) ∧ Fr w.heap.size [] w wc ∧ w.drawn ≤ wc.drawn)
  case first =>
    go_region
    all_goals
      go_wp2
      go_meet
      case rel =>
        first
          | (have h := two_rows w 55 [.int .i64 x0, .int .i64 x1] [.int .i64 y0, .int .i64 y1]
             exact ⟨_, _, rfl, rfl, ⟨h.1.cell 0, h.1.cell 1⟩, ⟨h.2.cell 0, h.2.cell 1⟩, (f2 _ _).drew, Nat.le_succ _⟩)
          | (have h := two_rows w 55 [.int .i64 y0, .int .i64 y1] [.int .i64 x0, .int .i64 x1]
             exact ⟨_, _, rfl, rfl, ⟨h.2.cell 0, h.2.cell 1⟩, ⟨h.1.cell 0, h.1.cell 1⟩, (f2 _ _).drew, Nat.le_succ _⟩)
  case rest =>
    obtain ⟨gx, gy, rfl, rfl, ⟨cx0, cx1⟩, ⟨cy0, cy1⟩, hfr, hdr⟩ := hcut
    clear a0 a1 a2 b0 b1 b2 f0 f1 f2 hb hg hbl hgl hF
    go_upto_region 2 with fail
    refine region_still_tail 10 (by kernel_rfl) (by kernel_rfl) ?_
    intro W hW
    replace cx0 : W.cell? ⟨gx, 0, none⟩ = some (.int .i64 x0) := by rw [hW]; exact cx0
    replace cx1 : W.cell? ⟨gx, 1, none⟩ = some (.int .i64 x1) := by rw [hW]; exact cx1
    replace cy0 : W.cell? ⟨gy, 0, none⟩ = some (.int .i64 y0) := by rw [hW]; exact cy0
    replace cy1 : W.cell? ⟨gy, 1, none⟩ = some (.int .i64 y1) := by rw [hW]; exact cy1
    have hfr2 : Fr w.heap.size [] w W := by rw [hW]; exact hfr.drew
    have hdr2 : w.drawn ≤ W.drawn := by rw [hW]; exact Nat.le_succ_of_le hdr
    clear hW hfr hdr
    simp only [List.take_succ_cons, List.take_zero, List.drop_succ_cons, List.drop_zero]
    iterate 4 (refine wpStill_step (fun K hK => ?_); go_simp; refine hK _ ?_; clear hK K)
    refine wpStill_step (fun K hK => ?_)
    go_simp
    refine ⟨_, cmp_still _ x0 y0, hK _ ?_⟩
    clear hK K
    iterate 4 (refine wpStill_step (fun K hK => ?_); go_simp; refine hK _ ?_; clear hK K)
    refine wpStill_step (fun K hK => ?_)
    go_simp
    refine ⟨_, cmp_still _ x1 y1, hK _ ?_⟩
    clear hK K
    refine wpStill_nil ?_
    have hn := Has.new W 3 [.int .i64 (cmpI x0 y0), .int .i64 (cmpI x1 y1)]
    go_wp2_with (with_reducible refine (or_int _ _ _ (cmpI x0 y0) (cmpI x1 y1) (hn.cell 0) (hn.cell 1)).mono ?_; rintro e w1 ⟨rfl, rfl⟩)
    go_ret
    refine ⟨rfl, grow_of (hfr2.alloc hfr2.size _) (by exact hdr2)⟩
end Go.Proofs.Ytkclpkepmckjgaa
