/- Merge. -/
import Derived.Test.YtcemlacfldonlaaClkAll
import Derived.Test.YtcemlacfldonlaaClkCanon
import Derived.Test.YtcemlacfldonlaaFenceTail
import Derived.StillTailTactics
namespace Go.Proofs.Ytcemlacfldonlaa
open Go.RowKit Go.Shelf
open Ck
attribute [local go_sem] Oper.semAt_some
theorem keeps_fr {W W' : World} {S : List Nat} (h : Fr W.heap.size S W W') (hS : ∀ k ∈ S, ∃ o, W.heap[k]? = some o ∧ o.isCells = true) : KeepsOthers W W' :=
  ⟨h.size, fun k o hk ho => by
    refine (h.block k (Array.getElem?_eq_some_iff.1 hk).1 fun hk2 => ?_).trans hk
    obtain ⟨o', ho', hc⟩ := hS k hk2
    rw [hk] at ho'
    cases ho'
    rw [ho] at hc
    cases hc⟩
theorem own_cells {w : World} {base e size n : Nat} {v : Value} {xs : List Value} (h : w.ownsRow base e size v n xs) : ∀ k ∈ v.ownBlock.toList, ∃ o, w.heap[k]? = some o ∧ o.isCells = true := by
  intro k hk
  rw [Option.mem_toList] at hk
  rcases h.2 with ⟨rfl, _⟩ | ⟨g, cap, cur, rfl, _, hg, _⟩
  · cases hk
  · injection hk with hk
    exact ⟨_, by rw [← hk]; exact hg, rfl⟩
/-- The box holds a slice of the call's own, of which G speaks: this speaks of cells alone. -/
theorem boxRow_own (n₀ B : Nat) (t e : TypeId) (G : List Dot → List Dot → Prop) : Own (fun pre W => ∃ v out, Boxed W B t v ∧ W.ownsRow n₀ e 2 v out.length (out.flatMap Dot.cells) ∧ G pre out) := by
  rintro s X Y row ⟨v, out, hv, hr, hG⟩ hg hrow
  refine ⟨v, out, hv.kept hg (fun e' => ?_), hr.kept hg ?_, hG⟩
  · obtain ⟨o, ho, hc⟩ := hrow B e'.symm
    rw [show X.heap[B]? = _ from hv] at ho; cases ho; cases hc
  · rcases hr.2 with ⟨rfl, _⟩ | ⟨g, cap, cur, rfl, _, hgb, _⟩
    · exact .inl rfl
    · refine .inr fun e' => ?_
      obtain ⟨o, ho, hc⟩ := hrow g (by simpa [Value.ownBlock] using e'.symm)
      rw [hgb] at ho; cases ho; cases hc
theorem own_arow {w : World} {base e size n : Nat} {v : Value} {xs : List Value} (h : w.ownsRow base e size v n xs) : ∃ A c, v = .slice A n c ∧ ARow w w.heap.size A xs := by
  rcases h.2 with ⟨hv, h0⟩ | ⟨g, cap, cur, hv, hbg, hh, r⟩
  · exact ⟨none, 0, by rw [hv, h0], .inl (List.eq_nil_of_length_eq_zero (by rw [h.1, h0, Nat.zero_mul]))⟩
  · rw [hv] at h
    refine ⟨_, cap, hv, .inr ⟨g, 0, rfl, (Array.getElem?_eq_some_iff.1 hh).1, fun j u hu => ?_⟩⟩
    have hj : j < n * size := by
      have := (List.getElem?_eq_some_iff.1 hu).1
      rwa [h.1] at this
    have := h.cellAt j hj
    rw [Nat.zero_add, this]
    exact hu
theorem own_fr {w w' : World} {base e size n : Nat} {v : Value} {xs : List Value} {B : Nat} {S : List Nat} (h : w.ownsRow base e size v n xs) (hF : ∀ k, v.ownBlock = some k → k < B ∧ k ∉ S) (hf : Fr B S w w') : w'.ownsRow base e size v n xs := by
  refine ⟨h.1, ?_⟩
  rcases h.2 with h0 | ⟨g, cap, cur, rfl, hb, hg, r⟩
  · exact .inl h0
  · obtain ⟨h1, h2⟩ := hF g rfl
    exact .inr ⟨g, cap, cur, rfl, hb, (hf.block g h1 h2).trans hg, r⟩
namespace Ck
theorem at_exists (l : List Dot) (y : Nat) (hs : l.Pairwise fun x y => x.a < y.a) : ∃ i, At l y i := by
  induction l with
  | nil => exact ⟨0, Nat.le_refl _, fun t h => by simp at h, fun t h => by simp at h⟩
  | cons d l ih =>
    rw [List.pairwise_cons] at hs
    by_cases h : d.a < y
    · obtain ⟨i, h1, h2, h3⟩ := ih hs.2
      refine ⟨i + 1, by simp; exact h1, fun t ht hti => ?_, fun t ht hti => ?_⟩
      · cases t with
        | zero => exact h
        | succ t => exact h2 t (by simpa using ht) (by omega)
      · cases t with
        | zero => omega
        | succ t => exact h3 t (by simpa using ht) (by omega)
    · refine ⟨0, by simp, fun t _ h => by omega, fun t ht _ => ?_⟩
      cases t with
      | zero => simpa using h
      | succ t =>
        have ht' : t < l.length := by simpa using ht
        have := hs.1 _ (List.getElem_mem ht')
        simp only [List.getElem_cons_succ]
        omega
theorem At.uniq {l : List Dot} {y i j : Nat} (h : At l y i) (k : At l y j) : i = j := by
  rcases Nat.lt_trichotomy i j with e | e | e
  · have h1 := k.lo i (by have := k.le; omega) e
    have h2 := h.hi i (by have := k.le; omega) (Nat.le_refl _)
    omega
  · exact e
  · have h1 := h.lo j (by have := h.le; omega) e
    have h2 := k.hi j (by have := h.le; omega) (Nat.le_refl _)
    omega
theorem flat_set (l : List Dot) (i : Nat) (x : Dot) (hi : i < l.length) (hx : x.a = l[i].a) : (l.flatMap Dot.cells).set (i * 2 + 1) (.int .u64 (x.n : Int)) = (l.set i x).flatMap Dot.cells := by
  induction l generalizing i with
  | nil => simp at hi
  | cons d l ih =>
    cases i with
    | zero =>
      obtain ⟨xa, xn⟩ := x
      simp only [List.getElem_cons_zero] at hx
      simp [Dot.cells, hx]
    | succ i =>
      simp only [List.getElem_cons_succ] at hx
      rw [List.flatMap_cons, List.set_cons_succ, List.flatMap_cons, ← ih i (by simpa using hi) hx, show (i + 1) * 2 + 1 = (i * 2 + 1) + 2 by omega]
      rfl
end Ck
theorem bs_at (w : World) (A : Option Addr) (c : Nat) (l : List Dot) (y i : Nat) (hi : At l y i) (hA : ARow w w.heap.size A (l.flatMap Dot.cells)) (hl : l.length ≤ 8796093022208) (hs : Sorted l) :
    Calls Try.prog 36 #[.slice A l.length c, .int .u64 (y : Int), .func (.func 37) #[] #[]] w fun e w' => e = .returned (.tuple #[.int .i64 (i : Int), .bool (hasD l y i)]) ∧ Fr w.heap.size [] w w' :=
  (bs_any w A c l y hA hl hs).mono fun e w' ⟨⟨j, hj, he⟩, hf⟩ => ⟨by rw [hi.uniq hj]; exact he, hf⟩
theorem own_one {w w' : World} {base e size n b : Nat} {v : Value} {xs : List Value} (h : w.ownsRow base e size v n xs) (o : One b w w') (hne : some b ≠ v.ownBlock) : w'.ownsRow base e size v n xs := by
  refine ⟨h.1, ?_⟩
  rcases h.2 with h0 | ⟨g, cap, cur, rfl, hb, hg, r⟩
  · exact .inl h0
  · exact .inr ⟨g, cap, cur, rfl, hb, (o.block g (fun e => hne (by rw [e]; rfl))).trans hg, r⟩
set_option maxRecDepth 100000 in
set_option maxHeartbeats 4000000 in
theorem merge_in (w : World) (a : Option Addr) (len cap : Nat) (L : List (List Dot)) (hL : L.length ≤ 1000000) (hds : ∀ ds ∈ L, ds.length ≤ 8796093022208) (hLL : L.flatten.length ≤ 8796093022208) (hC : ClksAt w.heap.size w (.slice a len cap) L) :
    CallsIn Fence.wide 5 Try.prog 29 #[.slice a len cap] w fun e w' => ∃ v out, e = .returned v ∧ w'.ownsRow w.heap.size 92 2 v out.length (out.flatMap Dot.cells) ∧ Canon out L.flatten ∧ out.length ≤ L.flatten.length ∧ Below w.heap.size w w' := by
  have hro : Fence.wide.round = none := rfl
  refine callsIn_of_wp_marks Try.func29 rfl trivial ?_ hro
  simp only [Try.ntmps29, List.size_toArray, List.length_cons, List.length_nil, Nat.reduceAdd, Nat.reduceSub, Array.replicate_succ, Array.replicate_zero, List.push_toArray, List.append_toArray, List.nil_append, List.cons_append]
  gi_wp2_with (refine ⟨trivial, ?_⟩; gi_at_call 35; refine (all_in Fence.wide 4 trivial rfl _ a len cap rfl _).mono ?_; rintro e w' ⟨rfl, rfl⟩)
  have bO := (Boxed.new w 31 (.slice none 0 0)).alloc (.cells #[.slice a len cap] 86)
  have bL := Boxed.new (w.alloc (.cells #[.slice none 0 0] 31)) 86 (.slice a len cap)
  rw [World.size_alloc] at bL
  have hB0 : Below w.heap.size w ((w.alloc (.cells #[.slice none 0 0] 31)).alloc (.cells #[.slice a len cap] 86)) := ((Below.refl _ w).alloc (Nat.le_refl _) _).alloc (by simp) _
  have hsz : ((w.alloc (.cells #[.slice none 0 0] 31)).alloc (.cells #[.slice a len cap] 86)).heap.size = w.heap.size + 2 := by simp
  obtain ⟨W0, hW0⟩ : ∃ W0, (w.alloc (.cells #[.slice none 0 0] 31)).alloc (.cells #[.slice a len cap] 86) = W0 := ⟨_, rfl⟩
  rw [hW0] at bO bL hB0 hsz ⊢
  clear hW0
  refine wpIn_rangeFunc_ownH hro (by omega) (gf := 50) (lb := #[.pointer (some ⟨w.heap.size + 1, 0, none⟩)]) rfl trivial (enters_of Try.func50 (by kernel_rfl) rfl)
    (all_stops Fence.wide 4 trivial hro (by omega) (w.heap.size + 1) w.heap.size (.slice a len cap) L hL hds W0 (by omega) (by omega) bL.cell (hC.below hB0)) belowK_t (belowK_b (by omega)) (Below.refl _ _) (fun _ => rfl)
    (fun pre W => (∃ v out, Boxed W w.heap.size 31 v ∧ W.ownsRow w.heap.size 92 2 v out.length (out.flatMap Dot.cells) ∧ (Canon out pre ∧ out.length ≤ pre.length)) ∧ Below w.heap.size W0 W)
    (fun _ _ _ => False)
    (OwnFrom.and (Own.from (boxRow_own w.heap.size w.heap.size 31 92 (fun pre out => Canon out pre ∧ out.length ≤ pre.length)) _) (ownFrom_below (by omega) (by omega)))
    (fun _ _ _ _ _ hs _ _ => hs)
    ⟨⟨_, [], bO, World.ownsRow_nil _ _ _ _, .nil, by simp⟩, Below.refl _ _⟩
    (fun x a' W => ∃ Bx, w.heap.size + 2 ≤ Bx ∧ Has W Bx 92 x.cells ∧ a' = { tmps := #[.slice a len cap, undef, .slice none 0 0, .pointer (some ⟨w.heap.size, 0, none⟩), .pointer (some ⟨Bx, 0, none⟩), undef, undef, .slice a len cap, .func (.func 50) #[] #[.pointer (some ⟨w.heap.size + 1, 0, none⟩)], .agg #[.int .u64 (x.a : Int), .int .u64 (x.n : Int)], undef, undef, undef, undef, undef, undef, undef, undef, undef, undef, undef, undef, undef, undef, undef, undef, undef, undef, undef, undef, undef, undef, undef, undef, undef, undef, undef, undef, undef], defers := [] })
    (fun x a' _ X Y row hs hg hr => by
      obtain ⟨Bx, h1, h2, h3⟩ := hs
      refine ⟨Bx, h1, (hg.block Bx h2.lt (fun e => ?_)).trans h2, h3⟩
      obtain ⟨_, o, ho, hc⟩ := hr Bx e.symm
      rw [show X.heap[Bx]? = _ from h2] at ho; cases ho; cases hc)
    ?assign ?body ?done ?stop
  case assign =>
    rintro l pre x W K ⟨⟨v, out, hv, hrow, hcan⟩, hB⟩ hK
    dsimp only [Dot.enc]
    have hsW := hB.size
    gi_wp2
    exact hK _ _ ((KeepsOthers.alloc _ _).from _) ((Below.refl _ W).alloc (by omega) _) ⟨⟨v, out, hv.alloc _, hrow.alloc _, hcan⟩, hB.alloc (by omega) _⟩ ⟨W.heap.size, by omega, Has.new W 92 x.cells, rfl⟩
  case body =>
    rintro l pre x a' W hl ⟨r, hr⟩ ⟨⟨v, out, hv, hrow, hcan, hlen⟩, hB⟩ ⟨Bx, hBx, hX, rfl⟩ hlt
    have hsW := hB.size
    have d0 : W.cell? ⟨Bx, 0, none⟩ = some (.int .u64 (x.a : Int)) := hX.cell 0
    have d1 : W.cell? ⟨Bx, 1, none⟩ = some (.int .u64 (x.n : Int)) := hX.cell 1
    obtain ⟨A, c, rfl, hA⟩ := own_arow hrow
    have hc := hv.cell
    by_cases hx0 : x.n = 0
    · have hxi : (x.n : Int) = 0 := by omega
      gi_wp2
      exact ⟨KeepsFrom.refl _ _, Below.refl _ _, ⟨_, out, hv, hrow, hcan.zero hx0, by simp; omega⟩, hB⟩
    · have hxi : ¬ (x.n : Int) = 0 := by omega
      obtain ⟨i, hAt⟩ := at_exists out x.a hcan.sorted.pair
      have hbs := bs_at W A c out x.a i hAt hA (by omega) hcan.sorted
      have hgc := own_cells hrow
      have hlow := hrow.lt
      cases hh : hasD out x.a i
      · rw [hh] at hbs
        gi_wp2_with (first
          | (refine ⟨trivial, ?_⟩; gi_at_call 39; refine (CallsIn.inRound l (callsIn_wide.2 hins)).mono ?_; rintro e w3 ⟨⟨v3, rfl, hrow3, hob⟩, f3⟩; obtain ⟨g3, cap3, rfl⟩ := ownsRow_succ hrow3; have hv3 : Boxed w3 w.heap.size 31 (.slice A out.length c) := (f3.block _ (by simp; omega) hnb).trans (hv1.alloc (.cells #[.int .u64 (x.a : Int), .int .u64 (x.n : Int)] 92)); have hc3 := hv3.cell; have hz3 := hv3.frozen)
          | (refine ⟨trivial, ?_⟩; gi_at_call 36; refine (CallsIn.inRound l (callsIn_wide.2 hbs)).mono ?_; rintro e w1 ⟨rfl, f1⟩;
             have hs1 := f1.size;
             have hv1 : Boxed w1 w.heap.size 31 (.slice A out.length c) := (f1.block _ (by omega) (by simp)).trans hv;
             have hc1 := hv1.cell;
             have e0 : w1.cell? ⟨Bx, 0, none⟩ = some (.int .u64 (x.a : Int)) := (f1.cell (p := ⟨Bx, 0, none⟩) hX.lt (by simp)).trans d0;
             have e1 : w1.cell? ⟨Bx, 1, none⟩ = some (.int .u64 (x.n : Int)) := (f1.cell (p := ⟨Bx, 1, none⟩) hX.lt (by simp)).trans d1;
             have hrow1 := own_fr hrow (fun k hk => ⟨(hlow k hk).2, by simp⟩) f1;
             have hnb : w.heap.size ∉ (Value.slice A out.length c).ownBlock.toList := (by rw [Option.mem_toList]; exact fun e => hv1.not_row (by decide) hrow1 e.symm);
             have hins := ins_any (w1.alloc (.cells #[.int .u64 (x.a : Int), .int .u64 (x.n : Int)] 92)) w.heap.size (.slice A out.length c) w1.heap.size i out x (hrow1.alloc _) hAt.le (by omega) (by simp; omega) (Has.new w1 92 x.cells) (fun e => by have := (hrow1.lt _ e).2; omega)))
        have hs3 := f3.size
        simp only [World.size_alloc] at hs3
        have hK1 : KeepsOthers W w1 := keeps_fr f1 (by simp)
        have hK3 : KeepsOthers (w1.alloc (.cells #[.int .u64 (x.a : Int), .int .u64 (x.n : Int)] 92)) w3 := keeps_fr f3 (own_cells (hrow1.alloc _))
        have hB1 : Below w.heap.size W w1 := (f1.mono (by omega) (by simp)).to_below
        have hB3 : Below w.heap.size (w1.alloc (.cells #[.int .u64 (x.a : Int), .int .u64 (x.n : Int)] 92)) w3 := (f3.mono (S' := []) (by simp; omega) (fun k hk hl => by rw [Option.mem_toList] at hk; have := (hlow k hk).1; omega)).to_below
        have hBe := ((hB1.alloc (by omega) (.cells #[.int .u64 (x.a : Int), .int .u64 (x.n : Int)] 92)).trans hB3).setCell (p := ⟨w.heap.size, 0, none⟩) (Nat.le_refl _) (.slice (some ⟨g3, 0, none⟩) (out.length + 1) cap3)
        have hne3 := hv3.not_row (by decide) hrow3
        refine ⟨(((hK1.trans (KeepsOthers.alloc _ _)).trans hK3).trans (KeepsOthers.setCell _ _ _)).from _, hBe, ⟨_, insD out i x, (show Has w3 w.heap.size 31 [_] from hv3).set 0 _, ?_, hcan.ins hx0 hAt hh, ?_⟩, hB.trans hBe⟩
        · have hil : (insD out i x).length = out.length + 1 := by simp [insD]; have := hAt.le; omega
          rw [hil]
          exact own_one hrow3 ((One.refl w.heap.size w3).setCell 0 _) hne3
        · simp [insD]
          have := hAt.le
          omega
      · obtain ⟨hil, hia⟩ := hasD_some hh
        rcases hrow.2 with ⟨_, h0⟩ | ⟨g, cap, cur, he, hbg, hg, hnc, hcm, hcs, htk⟩
        · omega
        · injection he with he _ he2
          subst he he2
          rw [hh] at hbs
          have hH : Has W g 92 cur.toList := hg
          have hii : (i : Int) < (out.length : Int) := by omega
          have hgw : w.heap.size ≠ g := fun e => hv.not_row (by decide) hrow (by rw [e]; rfl)
          have hci : cur.toList[i * 2 + 1]? = some (.int .u64 (out[i].n : Int)) := by
            have h1 := congrArg (·[i * 2 + 1]?) htk
            rw [List.getElem?_take, if_pos (by omega), flatMap_get Dot.cells 2 (fun _ => rfl) out i 1 hil (by decide)] at h1
            exact h1
          obtain ⟨m, hm⟩ : ∃ m, out[i].n = m := ⟨_, rfl⟩
          rw [hm] at hci
          have hmx : max (m : Int) (x.n : Int) = ((max m x.n : Nat) : Int) := by omega
          gi_wp2_with (first | (refine ⟨trivial, ?_⟩; gi_at_call 36; refine (CallsIn.inRound l (callsIn_wide.2 hbs)).mono ?_; rintro e w1 ⟨rfl, f1⟩; have hs1 := f1.size; have hv1 : Boxed w1 w.heap.size 31 (.slice (some ⟨g, 0, none⟩) out.length c) := (f1.block _ (by omega) (by simp)).trans hv; have hc1 : w1.drew.cell? ⟨w.heap.size, 0, none⟩ = some (.slice (some ⟨g, 0, none⟩) out.length c) := hv1.cell; have e1 : w1.drew.cell? ⟨Bx, 1, none⟩ = some (.int .u64 (x.n : Int)) := (f1.cell (p := ⟨Bx, 1, none⟩) hX.lt (by simp)).trans d1; have hH1 := hH.fr f1 hH.lt (by simp); have e2 : w1.drew.cell? ⟨g, i * 2 + 1, none⟩ = some (.int .u64 (m : Int)) := (hH1.drew.cell _).trans hci; have e3 := hH1.drew.frozen (i * 2 + 1)))
          have hw1 : IntKind.i64.wrap (i : Int) = (i : Int) := IntWalk.i64_in _ (by omega)
          have hi0 : (0 : Int) ≤ (i : Int) := by omega
          refine round_still_tail 12 (by kernel_rfl) (by kernel_rfl) (by kernel_rfl) ?_
          intro W5 hW5
          rw [← hW5] at hc1 e1 e2 e3
          have HW5 := Lib.hid hW5
          clear hW5
          simp only [List.take_succ_cons, List.take_zero, List.drop_succ_cons, List.drop_zero]
          repeat (refine wpStill_step (fun K hK => ?_); go_simp; (refine hK _ ?_; clear hK K))
          refine wpStill_nil ?_
          gi_wp2
          rw [HW5.out]
          have hBe : Below w.heap.size W (w1.drew.setCell ⟨g, i * 2 + 1, none⟩ (.int .u64 ((max m x.n : Nat) : Int))) := ((f1.mono (by omega) (by simp)).drew.to_below).setCell (p := ⟨g, i * 2 + 1, none⟩) hbg _
          have hlen2 : (out.set i ⟨x.a, max m x.n⟩).length = out.length := by simp
          refine ⟨(((keeps_fr f1 (by simp)).trans (KeepsOthers.drew _)).trans (KeepsOthers.setCell _ _ _)).from _, hBe, ⟨_, out.set i ⟨x.a, max m x.n⟩, (((One.refl g w1.drew).setCell (i * 2 + 1) _).block _ hgw).trans hv1, ?_, ?_, by rw [hlen2]; simp; omega⟩, hB.trans hBe⟩
          · rw [hlen2]
            refine ⟨by rw [flatD_len, hlen2], .inr ⟨g, c, _, rfl, hbg, hH1.drew.set (i * 2 + 1) _, hnc, hcm, by simpa using hcs, ?_⟩⟩
            rw [List.toList_toArray, List.take_set, htk]
            exact flat_set out i ⟨x.a, max m x.n⟩ hil hia.symm
          · rw [← hm]
            exact hcan.set hil hia
  case done =>
    rintro D ys W hD rfl ⟨⟨v, out, hv, hrow, hcan, hlen⟩, hB⟩ hK
    have hc := hv.cell
    gi_wp2
    refine ⟨by simp, .inl ⟨_, _, rfl, run_takeDeferred hK, ?_⟩⟩
    exact ⟨_, results_tmp rfl _ _ _, v, out, rfl, ownsRow_putObj hrow _ hK rfl, hcan, hlen, (hB0.trans hB).trans (belowK_b (w := w) (Nat.le_refl _) W D _ _ (by omega) hK rfl rfl)⟩
  case stop =>
    rintro D c pre W _ _ h _
    exact h.elim
end Go.Proofs.Ytcemlacfldonlaa
