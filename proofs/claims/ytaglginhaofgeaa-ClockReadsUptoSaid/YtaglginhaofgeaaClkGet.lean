/- Get. -/
import Derived.Test.YtaglginhaofgeaaClkNorm
import Derived.Test.YtaglginhaofgeaaClkAllN
import Derived.Test.YtaglginhaofgeaaClass
namespace Go.Proofs.Ytaglginhaofgeaa
open Go.RowKit Go.Shelf
open Ck
attribute [local go_sem] Oper.semAt_some
theorem kpN_b {N : Nat → Prop} {w0 : World} (hN : ∀ k, N k → k < w0.heap.size) : ∀ (W : World) (l : Nat) (o o' : Obj), w0.heap.size ≤ l → W.heap[l]? = some o → o.isCells = false → o.isWalk = false → KpN N W (W.putObj l o') := fun W l o o' hl ho hc hw => by
  have h := belowK_b (w := w0) (n₀ := w0.heap.size) (Nat.le_refl _) W l o o' hl ho hc hw
  exact ⟨h.size, fun k hk => h.block k (hN k hk)⟩
theorem kpN_setCell {N : Nat → Prop} (W : World) (b o : Nat) (v : Value) (h : ¬ N b) : KpN N W (W.setCell ⟨b, o, none⟩ v) :=
  ⟨by simp, fun k hk => Below.heap_setCell _ _ _ _ (fun e => h (show N b from (show k = b from e) ▸ hk))⟩
set_option maxRecDepth 100000 in
set_option maxHeartbeats 4000000 in
theorem get_in (w : World) (v : Value) (ds : List Dot) (ac : Nat) (hds : ds.length ≤ 8796093022208) (hI : ClkIn w v ds) :
    CallsIn Fence.wide 5 Try.prog 24 #[v, .int .u64 (ac : Int)] w fun e w' => e = .returned (.int .u64 (getN ds ac : Int)) ∧ Below w.heap.size w w' := by
  have hro : Fence.wide.round = none := rfl
  obtain ⟨A, c, rfl, hA⟩ := hI
  refine callsIn_of_wp_marks Try.func24 rfl trivial ?_ hro
  simp only [Try.ntmps24, List.size_toArray, List.length_cons, List.length_nil, Nat.reduceAdd, Nat.reduceSub, Array.replicate_succ, Array.replicate_zero, List.push_toArray, List.append_toArray, List.nil_append, List.cons_append]
  gi_wp2_with (refine ⟨trivial, ?_⟩; gi_at_call 38; refine (all_in Fence.wide 4 trivial rfl _ _ _ _ rfl _).mono ?_; rintro e w' ⟨rfl, rfl⟩)
  obtain ⟨W3, hW3⟩ : ∃ W3, ((w.alloc (.cells #[.int .u64 (ac : Int)] 25)).alloc (.cells #[.int .u64 0] 25)).alloc (.cells #[.slice A ds.length c] 23) = W3 := ⟨_, rfl⟩
  have bA := (((Boxed.new w 25 (.int .u64 (ac : Int))).alloc (.cells #[.int .u64 0] 25)).alloc (.cells #[.slice A ds.length c] 23)).alloc (.cells #[.slice (some ⟨w.heap.size + 1 + 1, 0, none⟩) 1 1] 53)
  have bN := ((Boxed.new (w.alloc (.cells #[.int .u64 (ac : Int)] 25)) 25 (.int .u64 0)).alloc (.cells #[.slice A ds.length c] 23)).alloc (.cells #[.slice (some ⟨w.heap.size + 1 + 1, 0, none⟩) 1 1] 53)
  have bC := (Has.new ((w.alloc (.cells #[.int .u64 (ac : Int)] 25)).alloc (.cells #[.int .u64 0] 25)) 23 [.slice A ds.length c]).alloc (.cells #[.slice (some ⟨w.heap.size + 1 + 1, 0, none⟩) 1 1] 53)
  have bL := Boxed.new W3 53 (.slice (some ⟨w.heap.size + 1 + 1, 0, none⟩) 1 1)
  have hs3 : W3.heap.size = w.heap.size + 3 := by rw [← hW3]; simp
  have hB0 : Below w.heap.size w (W3.alloc (.cells #[.slice (some ⟨w.heap.size + 1 + 1, 0, none⟩) 1 1] 53)) := by
    rw [← hW3]
    exact ((((Below.refl _ w).alloc (Nat.le_refl _) _).alloc (by simp) _).alloc (by simp; omega) _).alloc (by simp; omega) _
  simp only [World.size_alloc] at bN bC
  rw [hW3] at bA bN bC ⊢
  rw [hs3] at bL
  have hsz : (W3.alloc (.cells #[.slice (some ⟨w.heap.size + 1 + 1, 0, none⟩) 1 1] 53)).heap.size = w.heap.size + 4 := by simp [hs3]
  obtain ⟨W0, hW0⟩ : ∃ W0, W3.alloc (.cells #[.slice (some ⟨w.heap.size + 1 + 1, 0, none⟩) 1 1] 53) = W0 := ⟨_, rfl⟩
  rw [hW0] at bA bN bC bL hB0 hsz ⊢
  clear hW0 hW3 hs3
  have hNl : ∀ k, (k < w.heap.size ∨ k = w.heap.size + 2) → k < W0.heap.size := fun k hk => by omega
  have hC : ClksN (fun k => k < w.heap.size ∨ k = w.heap.size + 2) W0 (.slice (some ⟨w.heap.size + 1 + 1, 0, none⟩) 1 1) [ds] :=
    ⟨_, _, [.slice A ds.length c], rfl, rfl, .inr ⟨w.heap.size + 1 + 1, 0, rfl, .inr rfl, by omega, fun j u hu => by rw [Nat.zero_add, bC.cell]; exact hu⟩, fun j v es hv hd => by
      cases j with
      | succ j => simp at hv
      | zero =>
        simp at hv hd
        subst hv hd
        refine ⟨A, c, rfl, ?_⟩
        rcases hA with h | ⟨blk, o, hA, hb, hr⟩
        · exact .inl h
        · exact .inr ⟨blk, o, hA, .inl hb, by omega, fun j u hu => (hB0.cell (p := ⟨blk, o + j, none⟩) hb).trans (hr j u hu)⟩⟩
  refine wpIn_rangeFunc_ownH hro (by omega) (gf := 61) (lb := #[.pointer (some ⟨w.heap.size + 1 + 1 + 1, 0, none⟩)]) rfl trivial (enters_of Try.func61 (by kernel_rfl) rfl)
    (all_stopsN Fence.wide 4 trivial hro (by omega) (w.heap.size + 1 + 1 + 1) (fun k => k < w.heap.size ∨ k = w.heap.size + 2) _ [ds] (by simp) (by simp; omega) W0 (by omega) hNl bL.cell hC) (fun h k => h.trans k) (kpN_b hNl) (Below.refl _ _) (fun _ => rfl)
    (fun pre W => (Boxed W (w.heap.size + 1) 25 (.int .u64 (getN pre ac : Int)) ∧ Boxed W w.heap.size 25 (.int .u64 (ac : Int))) ∧ Below w.heap.size W0 W)
    (fun _ _ _ => False)
    (OwnFrom.and (OwnFrom.and (Own.from (boxed_own _ _ _) _) (Own.from (boxed_own _ _ _) _)) (ownFrom_below (by omega) (by omega)))
    (fun _ _ _ _ _ hs _ _ => hs)
    ⟨⟨bN, bA⟩, Below.refl _ _⟩
    (fun x a' W => ∃ Bx, w.heap.size + 4 ≤ Bx ∧ Has W Bx 27 x.cells ∧ a' = { tmps := #[.slice A ds.length c, .int .u64 (ac : Int), undef, .pointer (some ⟨w.heap.size, 0, none⟩), .int .u64 0, .pointer (some ⟨w.heap.size + 1, 0, none⟩), .pointer (some ⟨Bx, 0, none⟩), .slice A ds.length c, .slice (some ⟨w.heap.size + 1 + 1, 0, none⟩) 1 1, .func (.func 61) #[] #[.pointer (some ⟨w.heap.size + 1 + 1 + 1, 0, none⟩)], .agg #[.int .u64 (x.a : Int), .int .u64 (x.n : Int)], undef, undef, undef, undef, undef, undef, undef, undef, undef], defers := [] })
    (fun x a' _ X Y row hs hg hr => by
      obtain ⟨Bx, h1, h2, h3⟩ := hs
      refine ⟨Bx, h1, (hg.block Bx h2.lt (fun e => ?_)).trans h2, h3⟩
      obtain ⟨_, o, ho, hc⟩ := hr Bx e.symm
      rw [show X.heap[Bx]? = _ from h2] at ho; cases ho; cases hc)
    ?assign ?body ?done ?stop
  case assign =>
    rintro l pre x W K ⟨⟨hv, hv2⟩, hB⟩ hK
    dsimp only [Dot.enc]
    have hsW := hB.size
    gi_wp2
    exact hK _ _ ((KeepsOthers.alloc _ _).from _) ((KpN.refl _ W).alloc (fun k hk => by omega) _) ⟨⟨hv.alloc _, hv2.alloc _⟩, hB.alloc (by omega) _⟩ ⟨W.heap.size, by omega, Has.new W 27 x.cells, rfl⟩
  case body =>
    rintro l pre x a' W hl ⟨r, hr⟩ ⟨⟨hv, hv2⟩, hB⟩ ⟨Bx, hBx, hX, rfl⟩ hlt
    have hsW := hB.size
    have d0 : W.cell? ⟨Bx, 0, none⟩ = some (.int .u64 (x.a : Int)) := hX.cell 0
    have d1 : W.cell? ⟨Bx, 1, none⟩ = some (.int .u64 (x.n : Int)) := hX.cell 1
    have e0 := hv.cell
    have e1 := hv2.cell
    have e2 := hv.frozen
    by_cases hx : x.a = ac
    · have hmx : max (getN pre ac : Int) (x.n : Int) = ((max (getN pre ac) x.n : Nat) : Int) := by omega
      have hg : getN (pre ++ [x]) ac = max (getN pre ac) x.n := by rw [getN_snoc]; unfold stepN; rw [if_pos hx]
      subst hx
      have hset : Boxed (W.setCell ⟨w.heap.size + 1, 0, none⟩ (.int .u64 ((max (getN pre x.a) x.n : Nat) : Int))) (w.heap.size + 1) 25 (.int .u64 ((max (getN pre x.a) x.n : Nat) : Int)) := (show Has W (w.heap.size + 1) 25 [_] from hv).set 0 _
      gi_wp2
      have hBe := (Below.refl w.heap.size W).setCell (p := ⟨w.heap.size + 1, 0, none⟩) (Nat.le_succ _) (.int .u64 ((max (getN pre x.a) x.n : Nat) : Int))
      exact ⟨(KeepsOthers.setCell _ _ _).from _, kpN_setCell W (w.heap.size + 1) 0 _ (by omega), ⟨by rw [hg]; exact hset, hv2.other (by omega) _⟩, hB.trans hBe⟩
    · have hxb : ((x.a : Int) == (ac : Int)) = false := by rw [beq_eq_false_iff_ne]; omega
      have hg : getN (pre ++ [x]) ac = getN pre ac := by rw [getN_snoc]; unfold stepN; rw [if_neg hx]
      gi_wp2
      exact ⟨KeepsFrom.refl _ _, KpN.refl _ _, ⟨by rw [hg]; exact hv, hv2⟩, hB⟩
  case done =>
    rintro D ys W hD rfl ⟨⟨hv, hv2⟩, hB⟩ hK
    have hc := hv.cell
    have hfl : [ds].flatten = ds := by simp
    rw [hfl] at hc
    gi_wp2
    refine ⟨by simp, .inl ⟨_, _, rfl, run_takeDeferred hK, ?_⟩⟩
    exact ⟨_, results_tmp rfl _ _ _, rfl, (hB0.trans hB).trans (belowK_b (w := w) (Nat.le_refl _) W D _ _ (by omega) hK rfl rfl)⟩
  case stop =>
    rintro D c pre W _ _ h _
    exact h.elim
theorem get_any (w : World) (v : Value) (ds : List Dot) (ac : Nat) (hds : ds.length ≤ 8796093022208) (hI : ClkIn w v ds) :
    Calls Try.prog 24 #[v, .int .u64 (ac : Int)] w fun e w' => e = .returned (.int .u64 (getN ds ac : Int)) ∧ Fr w.heap.size [] w w' :=
  (callsIn_wide.1 (get_in w v ds ac hds hI)).mono fun _ _ ⟨h1, h2⟩ => ⟨h1, fr_of_below h2⟩
def Ck.coversB (ds : List Dot) (x : Dot) : Bool := decide (0 < x.n) && decide (x.n ≤ getN ds x.a)
set_option maxHeartbeats 1000000 in
set_option maxRecDepth 100000 in
theorem covers_any (w : World) (v : Value) (ds : List Dot) (x : Dot) (hds : ds.length ≤ 8796093022208) (hI : ClkIn w v ds) :
    Calls Try.prog 14 #[v, .agg #[.int .u64 (x.a : Int), .int .u64 (x.n : Int)]] w fun e w' => e = .returned (.bool (coversB ds x)) ∧ Fr w.heap.size [] w w' := by
  have hF := (Fr.refl w.heap.size [] w).alloc (Nat.le_refl _) (.cells #[.int .u64 (x.a : Int), .int .u64 (x.n : Int)] 27)
  have hH := Has.new w 27 x.cells
  have hcell : ∀ W, Has W w.heap.size 27 x.cells → W.cell? ⟨w.heap.size, 0, none⟩ = some (.int .u64 (x.a : Int)) ∧ W.cell? ⟨w.heap.size, 1, none⟩ = some (.int .u64 (x.n : Int)) := fun W h => ⟨h.cell 0, h.cell 1⟩
  have hg : ∀ W, Fr w.heap.size [] w W → Has W w.heap.size 27 x.cells → Calls Try.prog 24 #[v, .int .u64 (x.a : Int)] W fun e w' => e = .returned (.int .u64 (getN ds x.a : Int)) ∧ Fr w.heap.size [] w w' ∧ Has w' w.heap.size 27 x.cells := fun W h1 h2 =>
    (get_any W v ds x.a hds (clkIn_fr hI h1)).mono fun e w' ⟨he, hf⟩ => ⟨he, h1.trans (hf.mono h1.size (by simp)), h2.fr hf h2.lt (by simp)⟩
  obtain ⟨A, c, rfl, _⟩ := hI
  unfold coversB
  by_cases h0 : 0 < x.n
  · have hi0 : (0 : Int) < (x.n : Int) := by omega
    go_enter Try.func14, Try.ntmps14
    go_upto_region 1 with (fail)
    refine wp_region_class (fun W => Fr w.heap.size [] w W ∧ Has W w.heap.size 27 x.cells) (by kernel_rfl) (by kernel_rfl) (⟨hF.drew, hH.drew⟩) ?_
    repeat
      first
        | (refine wpQuiet_skip (by rfl) ?_; try simp only [Act.put, List.setIfInBounds_toArray, List.set_cons_zero, List.set_cons_succ])
        | (refine wpQuiet_take (by rfl) ?_
           apply Exists.intro
           refine ⟨fun W hW => ?_, ?_⟩
           · first
               | ((obtain ⟨t0, t1⟩ := hcell _ hW.2; go_simp; exact rfl); done)
               | ((obtain ⟨t0, t1⟩ := hcell _ hW.2; go_simp); done)
               | (go_simp; done)
               | (go_simp; exact rfl)
               | (go_simp; (try refine ⟨rfl, ?_⟩); (go_at_call 24; exact hg _ hW.1 hW.2); done)
           try simp only [Act.put, List.setIfInBounds_toArray, List.set_cons_zero, List.set_cons_succ])
    refine wpQuiet_nil ?_
    intro wq hq
    go_wp2
    go_ret
    exact ⟨by simp [h0], hq.1⟩
  · have hi0 : ¬ (0 : Int) < (x.n : Int) := by omega
    go_enter Try.func14, Try.ntmps14
    go_upto_region 1 with (fail)
    refine wp_region_class (fun W => Fr w.heap.size [] w W ∧ Has W w.heap.size 27 x.cells) (by kernel_rfl) (by kernel_rfl) (⟨hF.drew, hH.drew⟩) ?_
    repeat
      first
        | (refine wpQuiet_skip (by rfl) ?_; try simp only [Act.put, List.setIfInBounds_toArray, List.set_cons_zero, List.set_cons_succ])
        | (refine wpQuiet_take (by rfl) ?_
           apply Exists.intro
           refine ⟨fun W hW => ?_, ?_⟩
           · first
               | ((obtain ⟨t0, t1⟩ := hcell _ hW.2; go_simp; exact rfl); done)
               | ((obtain ⟨t0, t1⟩ := hcell _ hW.2; go_simp); done)
               | (go_simp; done)
               | (go_simp; exact rfl)
               | (go_simp; (try refine ⟨rfl, ?_⟩); (go_at_call 24; exact hg _ hW.1 hW.2); done)
           try simp only [Act.put, List.setIfInBounds_toArray, List.set_cons_zero, List.set_cons_succ])
    refine wpQuiet_nil ?_
    intro wq hq
    go_wp2
    go_ret
    exact ⟨by simp, hq.1⟩
end Go.Proofs.Ytaglginhaofgeaa
