/- Bytes. -/
import Derived.Test.YtaglginhaofgeaaClkCmp
import Derived.Test.YtaglginhaofgeaaPackMeth
namespace Go.Proofs.Ytaglginhaofgeaa
open Go.RowKit Go.Shelf
open Ck Pk
attribute [local go_sem] Oper.semAt_some
def Ck.dotB (d : Dot) : List UInt8 := numB d.a ++ numB d.n
def Ck.clkB (out : List Dot) : List UInt8 := numB out.length ++ out.flatMap dotB
theorem dotB_len {x : Dot} (h : x.ok) : (dotB x).length ≤ 20 := by
  have h5 := numB_len10 h.1
  have h6 := numB_len10 h.2
  unfold dotB
  rw [List.length_append]
  omega
theorem dotsB_len (l : List { d : Dot // d.ok }) : (l.flatMap fun x => dotB x.1).length ≤ 20 * l.length := by
  induction l with
  | nil => simp
  | cons x l ih =>
    have := dotB_len x.2
    rw [List.flatMap_cons, List.length_append, List.length_cons]
    omega
theorem wfr_keeps {T : TypeId} {b : Nat} {l : List UInt8} {W W' : World} (h : WFr b W W') (hB : Bld T b l W) : KeepsOthers W W' :=
  ⟨h.below.size, fun k o hk ho => by
    obtain ⟨p, v, _, hb, _⟩ := hB
    refine h.kept k o hk ?_ ?_
    · intro e
      simp only [Option.some.injEq] at e
      rw [← e] at hb
      first | (rw [hb] at hk; cases hk; cases ho) | (rw [e] at hk; rw [hb] at hk; cases hk; cases ho)
    · intro c fz e
      rw [e] at ho
      cases ho⟩
theorem bld_own {β : Type} (T : TypeId) (b : Nat) (f : β → List UInt8) : Own (fun s W => Bld T b (f s) W) := fun s X Y row hs hg hr => by
  obtain ⟨p, v, hp, hb, ho, h0⟩ := hs
  have hlt : b < X.heap.size := (Array.getElem?_eq_some_iff.1 hb).1
  refine ⟨p, v, hp, (hg.block b hlt fun e => ?_).trans hb, ho.kept hg ?_, h0⟩
  · obtain ⟨o, h1, h2⟩ := hr b e.symm
    rw [hb] at h1; cases h1; cases h2
  · rcases ho.2 with ⟨rfl, _⟩ | ⟨g, cap, cur, fz, rfl, _, hg2, _⟩
    · exact .inl rfl
    · refine .inr fun e => ?_
      obtain ⟨o, h1, h2⟩ := hr g e.symm
      rw [hg2] at h1; cases h1; cases h2
set_option maxRecDepth 100000 in
set_option maxHeartbeats 4000000 in
theorem bytes_in (w : World) (v : Value) (ds : List Dot) (hds : ds.length ≤ 100000000000) (hok : ∀ d ∈ ds, d.ok) (hI : ClkIn w v ds) :
    CallsIn Fence.wide 6 Try.prog 20 #[v] w fun e w' => (∃ out, Canon out ds ∧ e = .returned (.string ⟨(clkB out).toArray⟩)) ∧ Below w.heap.size w w' := by
  have hro : Fence.wide.round = none := rfl
  have hn := norm_any w v ds (by omega) hI
  obtain ⟨A, c, rfl, hA⟩ := hI
  refine callsIn_of_wp_marks Try.func20 rfl trivial ?_ hro
  simp only [Try.ntmps20, List.size_toArray, List.length_cons, List.length_nil, Nat.reduceAdd, Nat.reduceSub, Array.replicate_succ, Array.replicate_zero, List.push_toArray, List.append_toArray, List.nil_append, List.cons_append]
  gi_wp2_with (first
    | (refine ⟨trivial, ?_⟩; gi_at_call 13; refine (callsIn_wide.2 hn).mono ?_; rintro e w1 ⟨⟨v1, out, rfl, g1, g2, g3⟩, f1⟩; obtain ⟨A1, c1, rfl⟩ := own_len1 g1)
    | (refine ⟨trivial, ?_⟩; gi_at_call 38; refine (all_in Fence.wide 5 trivial rfl _ _ _ _ rfl _).mono ?_; rintro e w' ⟨rfl, rfl⟩)
    | (refine ⟨trivial, ?_⟩; gi_at_call 55; refine (callsIn_wide.2 (wNum_one w1.heap.size [] _ out.length (w1.heap.size + 1) (by simp) (Bld.new' _ _ rfl) (by omega) (by have := numB_len10 (n := out.length) (by omega); simp; omega))).mono ?_; rintro e w2 ⟨rfl, b2, wf2⟩))
  have hb2 : w1.heap.size < w2.heap.size := b2.lt
  have hf12 : Below w.heap.size w w2 := (Fr.to_below f1).trans ((((Below.refl w1.heap.size w1).alloc (Nat.le_refl _) _).trans wf2.below).mono f1.size)
  have hrow : ∃ blk o, out = [] ∨ (A1 = some ⟨blk, o, none⟩ ∧ blk < w1.heap.size ∧ w1.rangeAt blk o (out.flatMap Dot.cells)) := by
    obtain ⟨A', c', hA', hr⟩ := clkIn_own g1
    injection hA' with hA' _ _
    rw [← hA'] at hr
    rcases hr with h | ⟨blk, o, h1, h2, h3⟩
    · refine ⟨0, 0, .inl ?_⟩
      cases out with
      | nil => rfl
      | cons x l => simp [Dot.cells] at h
    · exact ⟨blk, o, .inr ⟨h1, h2, h3⟩⟩
  have hout : ∀ d ∈ out, d.ok := fun d hd => by
    have h1 := g2.says d hd
    rcases getN_ex ds d.a with h0 | ⟨x, hx, hxa, hxn⟩
    · omega
    · have := hok x hx
      unfold Dot.ok at this ⊢
      rw [hxa, hxn, ← h1.2] at this
      exact this
  have hlenO := numB_len10 (n := out.length) (by omega)
  have bP := ((Boxed.new w2 79 (.pointer (some ⟨w1.heap.size, 0, none⟩))).alloc (.cells #[.slice A1 out.length c1] 23)).alloc (.cells #[.slice (some ⟨w2.heap.size + 1, 0, none⟩) 1 1] 53)
  have bC := (Boxed.new (w2.alloc (.cells #[.pointer (some ⟨w1.heap.size, 0, none⟩)] 79)) 23 (.slice A1 out.length c1)).alloc (.cells #[.slice (some ⟨w2.heap.size + 1, 0, none⟩) 1 1] 53)
  obtain ⟨W3, hW3⟩ : ∃ W3, (w2.alloc (.cells #[.pointer (some ⟨w1.heap.size, 0, none⟩)] 79)).alloc (.cells #[.slice A1 out.length c1] 23) = W3 := ⟨_, rfl⟩
  have bL := Boxed.new W3 53 (.slice (some ⟨w2.heap.size + 1, 0, none⟩) 1 1)
  have hs3 : W3.heap.size = w2.heap.size + 2 := by rw [← hW3]; simp
  have b3 : Bld 84 w1.heap.size ([] ++ numB out.length) W3 := by rw [← hW3]; exact (b2.alloc _).alloc _
  have b4 := b3.alloc (.cells #[.slice (some ⟨w2.heap.size + 1, 0, none⟩) 1 1] 53)
  have hB0 : Below w2.heap.size w2 (W3.alloc (.cells #[.slice (some ⟨w2.heap.size + 1, 0, none⟩) 1 1] 53)) := by
    rw [← hW3]
    exact (((Below.refl _ w2).alloc (Nat.le_refl _) _).alloc (by simp) _).alloc (by simp; omega) _
  simp only [World.size_alloc] at bC
  rw [hW3] at bP bC ⊢
  rw [hs3] at bL
  have hsz : (W3.alloc (.cells #[.slice (some ⟨w2.heap.size + 1, 0, none⟩) 1 1] 53)).heap.size = w2.heap.size + 3 := by simp [hs3]
  obtain ⟨W0, hW0⟩ : ∃ W0, W3.alloc (.cells #[.slice (some ⟨w2.heap.size + 1, 0, none⟩) 1 1] 53) = W0 := ⟨_, rfl⟩
  rw [hW0] at bP bC bL b4 hB0 hsz ⊢
  clear hW0 hW3 hs3 b3
  rw [List.nil_append] at b4
  have hN0 : ∀ k, (k < w1.heap.size ∨ k = w2.heap.size + 1) → k < W0.heap.size := fun k hk => by omega
  have hC : ClksN (fun k => k < w1.heap.size ∨ k = w2.heap.size + 1) W0 (.slice (some ⟨w2.heap.size + 1, 0, none⟩) 1 1) [out] :=
    ⟨_, _, [.slice A1 out.length c1], rfl, rfl, .inr ⟨w2.heap.size + 1, 0, rfl, .inr rfl, by omega, fun j u hu => by rw [Nat.zero_add]; exact (show Has W0 _ _ [_] from bC).cell j |>.trans hu⟩, fun j v es hv hd => by
      cases j with
      | succ j => simp at hv
      | zero =>
        simp at hv hd
        subst hv hd
        refine ⟨A1, c1, rfl, ?_⟩
        obtain ⟨blk, o, h | ⟨h1, h2, h3⟩⟩ := hrow
        · exact .inl (by rw [h]; rfl)
        · refine .inr ⟨blk, o, h1, .inl h2, by omega, fun j u hu => ?_⟩
          have h4 := (((Below.refl w1.heap.size w1).alloc (Nat.le_refl _) _).trans wf2.below).cell (p := ⟨blk, o + j, none⟩) h2
          exact (hB0.cell (p := ⟨blk, o + j, none⟩) (by show blk < _; omega)).trans (h4.trans (h3 j u hu))⟩
  refine wpIn_rangeFunc_ownH hro (by omega) (gf := 61) (lb := #[.pointer (some ⟨w2.heap.size + 1 + 1, 0, none⟩)]) rfl trivial (enters_of Try.func61 (by kernel_rfl) rfl)
    (all_stopsP Fence.wide 5 trivial hro (by omega) (w2.heap.size + 1 + 1) (fun k => k < w1.heap.size ∨ k = w2.heap.size + 1) _ [out] (by simp) (by simp; omega) W0 (by omega) hN0 bL.cell hC Dot.ok (by simpa using hout)) (fun h k => h.trans k) (kpN_b hN0) (Below.refl _ _) (fun _ => rfl)
    (fun pre W => ((Bld 84 w1.heap.size (numB out.length ++ (pre.flatMap fun x : { d : Dot // d.ok } => dotB x.1)) W ∧ Boxed W w2.heap.size 79 (.pointer (some ⟨w1.heap.size, 0, none⟩))) ∧ Boxed W (w2.heap.size + 1) 23 (.slice A1 out.length c1)) ∧ Below w1.heap.size W0 W)
    (fun _ _ _ => False)
    (OwnFrom.and (OwnFrom.and (OwnFrom.and (Own.from (bld_own _ _ _) _) (Own.from (boxed_own _ _ _) _)) (Own.from (boxed_own _ _ _) _)) (ownFrom_below (by omega) (by omega)))
    (fun _ _ _ _ _ hs _ _ => hs)
    ⟨⟨⟨by simpa using b4, bP⟩, bC⟩, Below.refl _ _⟩
    (fun x a' W => ∃ Bx, w2.heap.size + 3 ≤ Bx ∧ Has W Bx 27 x.1.cells ∧ a' = { tmps := #[.slice A1 out.length c1, undef, .string ⟨#[]⟩, .pointer (some ⟨w2.heap.size, 0, none⟩), .pointer (some ⟨Bx, 0, none⟩), .slice A ds.length c, .slice A1 out.length c1, .pointer (some ⟨w1.heap.size, 0, none⟩), .slice A1 out.length c1, .int .i64 out.length, .int .u64 out.length, .slice (some ⟨w1.heap.size + 1, 0, none⟩) 1 1, .pointer (some ⟨w1.heap.size, 0, none⟩), .slice A1 out.length c1, .slice (some ⟨w2.heap.size + 1, 0, none⟩) 1 1, .func (.func 61) #[] #[.pointer (some ⟨w2.heap.size + 1 + 1, 0, none⟩)], .agg #[.int .u64 (x.1.a : Int), .int .u64 (x.1.n : Int)], undef, undef, undef, undef, undef, undef, undef, undef, undef], defers := [] })
    (fun x a' _ X Y row hs hg hr => by
      obtain ⟨Bx, h1, h2, h3⟩ := hs
      refine ⟨Bx, h1, (hg.block Bx h2.lt (fun e => ?_)).trans h2, h3⟩
      obtain ⟨_, o, ho, hc⟩ := hr Bx e.symm
      rw [show X.heap[Bx]? = _ from h2] at ho; cases ho; cases hc)
    ?assign ?body ?done ?stop
  case assign =>
    rintro l pre x W K ⟨⟨⟨hv, hv2⟩, hv3⟩, hB⟩ hK
    dsimp only [Dot.enc]
    have hsW := hB.size
    gi_wp2
    exact hK _ _ ((KeepsOthers.alloc _ _).from _) ((KpN.refl _ W).alloc (fun k hk => by omega) _) ⟨⟨⟨hv.alloc _, hv2.alloc _⟩, hv3.alloc _⟩, hB.alloc (by omega) _⟩ ⟨W.heap.size, by omega, Has.new W 27 x.1.cells, rfl⟩
  case body =>
    rintro l pre ⟨x, hxo⟩ a' W hl ⟨r, hr⟩ ⟨⟨⟨hv, hv2⟩, hv3⟩, hB⟩ ⟨Bx, hBx, hX, rfl⟩ hlt
    have hsW := hB.size
    have d0 : W.cell? ⟨Bx, 0, none⟩ = some (.int .u64 (x.a : Int)) := hX.cell 0
    have d1 : W.cell? ⟨Bx, 1, none⟩ = some (.int .u64 (x.n : Int)) := hX.cell 1
    have e0 := hv2.cell
    have hll := dotsB_len pre
    have hlt' : pre.length < out.length := by simpa using hlt
    have hx0 := hxo.1
    have hx1 := hxo.2
    gi_wp2_with (first
      | (refine ⟨trivial, ?_⟩; gi_at_call 55; refine (CallsIn.inRound l (callsIn_wide.2 (wNum_any w1.heap.size _ (some ⟨W.heap.size, 0, none⟩) 2 _ [x.a, x.n] (hv.alloc _) (row_new W _ 25 [.int .u64 (x.a : Int), .int .u64 (x.n : Int)] (by omega) (by decide)) (by simp; exact hxo) (by simp) (by have := numB_len10 hxo.1; have := numB_len10 hxo.2; simp only [List.flatMap_cons, List.flatMap_nil, List.length_append, List.append_nil]; omega)))).mono ?_; rintro e W3 ⟨rfl, b5, wf5⟩))
    have hvA := hv.alloc (.cells #[.int .u64 (x.a : Int), .int .u64 (x.n : Int)] 25)
    have hBA : Below w1.heap.size W (W.alloc (.cells #[.int .u64 (x.a : Int), .int .u64 (x.n : Int)] 25)) := (Below.refl _ W).alloc (by omega) _
    refine ⟨((KeepsOthers.alloc W _).trans (wfr_keeps wf5 hvA)).from _, ⟨(hBA.trans wf5.below).size, fun k hk => ?_⟩, ⟨⟨?_, wf5.has (hv2.alloc _) (.inr ⟨by omega, by decide⟩)⟩, wf5.has (hv3.alloc _) (.inr ⟨by omega, by decide⟩)⟩, hB.trans (hBA.trans wf5.below)⟩
    · rcases hk with hk | rfl
      · exact (hBA.trans wf5.below).block k hk
      · have h9 := wf5.has (hv3.alloc (.cells #[.int .u64 (x.a : Int), .int .u64 (x.n : Int)] 25)) (.inr ⟨by omega, by decide⟩)
        exact (show W3.heap[w2.heap.size + 1]? = _ from h9).trans (show W.heap[w2.heap.size + 1]? = _ from hv3).symm
    · rw [List.flatMap_append, ← List.append_assoc]
      simpa [dotB] using b5
  case done =>
    rintro D ys W hD hys ⟨⟨⟨hv, hv2⟩, hv3⟩, hB⟩ hK
    have e0 := hv2.cell
    have hfm : (ys.flatMap fun x : { d : Dot // d.ok } => dotB x.1) = out.flatMap dotB := by
      have h1 : (ys.map Subtype.val).flatMap dotB = ys.flatMap fun x : { d : Dot // d.ok } => dotB x.1 := List.flatMap_map ..
      rw [← h1, hys]
      simp
    rw [hfm] at hv
    gi_wp2_with (first
      | (refine ⟨trivial, ?_⟩; gi_at_call 56; refine (callsIn_wide.2 (wBytes_any w1.heap.size _ W hv)).mono ?_; rintro e W3 ⟨rfl, b5, wf5⟩))
    have hK3 := (wfr_keeps wf5 hv).same D _ hK rfl
    have hBa : Below w.heap.size w W3 := (hf12.trans (hB0.mono (by have := hf12.size; omega))).trans ((hB.trans wf5.below).mono f1.size)
    refine ⟨by simp, .inl ⟨_, _, rfl, run_takeDeferred hK3, ?_⟩⟩
    exact ⟨_, results_tmp rfl _ _ _, ⟨out, g2, rfl⟩, hBa.trans (belowK_b (w := w) (Nat.le_refl _) W3 D _ _ (by have := hf12.size; omega) hK3 rfl rfl)⟩
  case stop =>
    rintro D c pre W _ _ h _
    exact h.elim
theorem Ck.Canon.uniq {o1 o2 p : List Dot} (h1 : Canon o1 p) (h2 : Canon o2 p) : o1 = o2 := h1.ext h2 fun _ => rfl
theorem bytes_any (w : World) (v : Value) (ds out : List Dot) (hds : ds.length ≤ 100000000000) (hok : ∀ d ∈ ds, d.ok) (hI : ClkIn w v ds) (ho : Canon out ds) :
    Calls Try.prog 20 #[v] w fun e w' => e = .returned (.string ⟨(clkB out).toArray⟩) ∧ Fr w.heap.size [] w w' :=
  (callsIn_wide.1 (bytes_in w v ds hds hok hI)).mono fun _ _ ⟨⟨o, h1, h2⟩, h3⟩ => ⟨by rw [ho.uniq h1]; exact h2, fr_of_below h3⟩
end Go.Proofs.Ytaglginhaofgeaa
