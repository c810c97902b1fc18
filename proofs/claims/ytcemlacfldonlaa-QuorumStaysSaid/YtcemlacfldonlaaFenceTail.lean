/- A region that draws its order, within the round of a range over a function: n operations that leave the world alone, then a tail whose order is forced. -/
import Derived.Test.YtcemlacfldonlaaBase
import Derived.StillTail
import Derived.OrdersIn
import Derived.RangeFuncCalls
import Derived.TacticsIn
namespace Go.Proofs.Ytcemlacfldonlaa
open Go.RowKit
section
variable {P : Program} {ops : Array Oper} {md : Region.Mode} {w : World} {l n : Nat}
def noDefer (o : Oper) : Bool := match o.op with | .defer _ => false | _ => true
theorem noDefer_spec {o : Oper} (h : noDefer o = true) : ∀ c, o.op ≠ .defer c := by
  intro c e
  unfold noDefer at h
  rw [e] at h
  cases h
theorem round_op {i : Nat} {a : Act} {K : Act → Prop} {K' : Act → World → Prop} {Q' : Exit → Act → World → Prop} (hnd : ∀ o, ops[i]? = some o → noDefer o = true) (h : ∀ a, K a → K' a w) (hh : stOp P ops w i K a) :
    wpOpIn (Fence.wide.inRound l) n P ops Q' i K' a w := by
  unfold stOp at hh
  unfold wpOpIn
  cases ho : ops[i]? with
  | none => rw [ho] at hh; exact h _ hh
  | some o =>
    rw [ho] at hh
    simp only at hh ⊢
    by_cases hw : Region.wanted o (yielded ops a.tmps) = true
    · rw [if_pos hw] at hh ⊢
      refine ⟨fun _ _ => trivial, ?_⟩
      rw [Oper.semAt_eq _ _ _ (noDefer_spec (hnd o ho))]
      unfold Oper.still at hh
      generalize (execOp a.eval o).run P w = r at hh
      cases r with
      | halt e w' => exact hh.elim
      | ok x w' =>
        cases x
        case value v => obtain ⟨rfl, hk⟩ := hh; exact h _ hk
        case skip => obtain ⟨rfl, hk⟩ := hh; exact h _ hk
        case enter f args =>
          obtain ⟨rfl, v, hc, hk⟩ := hh
          refine ⟨fun hd => (by cases hd), (CallsIn.inRound l (callsIn_wide.2 hc)).mono ?_⟩
          rintro e w'' ⟨rfl, rfl⟩
          exact h _ hk
        all_goals exact hh.elim
    · rw [if_neg hw] at hh ⊢
      exact ⟨fun _ _ => trivial, h _ hh⟩
theorem round_head {g m : Nat} {L : Array Bool → Act → Prop} {Q' : Exit → Act → World → Prop} (hnd : ∀ (i : Nat) (o : Oper), ops[i]? = some o → noDefer o = true) (hL : ∀ listed a, L listed a → wpAnyIn (Fence.wide.inRound l) n P md ops Q' g listed a w) :
    ∀ (f : Nat) (listed : Array Bool) (a : Act), wpAnyL P md ops w m L f listed a → wpAnyIn (Fence.wide.inRound l) n P md ops Q' (f + g) listed a w := by
  intro f
  induction f with
  | zero => intro listed a h; rw [Nat.zero_add]; exact hL _ _ h
  | succ f ih =>
    intro listed a h
    rw [show f + 1 + g = (f + g) + 1 by omega]
    exact ⟨fun h0 => absurd h0 h.1, fun i hi => round_op (hnd i) (fun a' h' => ih _ a' h') (h.2 i hi).2⟩
theorem round_seq {Q' : Exit → Act → World → Prop} : ∀ (t : List Oper) (k : Nat) (listed : Array Bool) (a : Act) (w : World), (∀ j, t[j]? = ops[k + j]?) →
    Region.seqB md ops t.length k listed = true → wpListIn (Fence.wide.inRound l) n P ops Q' t a w → wpAnyIn (Fence.wide.inRound l) n P md ops Q' t.length listed a w := by
  intro t
  induction t with
  | nil => intro k listed a w _ hB h; exact ⟨by simpa [Region.seqB] using hB, h⟩
  | cons o t ih =>
    intro k listed a w hl hB h
    have h0 : ops[k]? = some o := by simpa using (hl 0).symm
    simp only [List.length_cons, Region.seqB, Bool.and_eq_true, decide_eq_true_eq] at hB
    refine ⟨fun h1 => (by rw [hB.1] at h1; cases h1), fun i hi => ?_⟩
    rw [hB.1] at hi
    obtain rfl : i = k := by simpa using hi
    have hw : wpOpIn (Fence.wide.inRound l) n P ops Q' i (wpListIn (Fence.wide.inRound l) n P ops Q' t) a w := by unfold wpOpIn; rw [h0]; exact h
    exact wpOpIn_mono (fun a' w' h' => ih (i + 1) _ a' w' (fun j => by have := hl (j + 1); simpa [Nat.add_assoc, Nat.add_comm 1 j] using this) hB.2 h') hw
end
theorem round_still_tail {P : Program} {l n id : Nat} {Q : Exit → Act → World → Prop} {a : Act} {w : World} {t : List Oper} (m : Nat) (hm : P.follows .mixedOrders = true) (hd : t.all noDefer = true) (hB : Region.lexTailB .any t.toArray m = true)
    (h : ∀ W, W = w.drew → wpStill P t.toArray W (fun a' => wpListIn (Fence.wide.inRound l) n P t.toArray Q (t.drop m) a' W) (t.take m) a) : (Code.region id t.toArray true).wpIn (Fence.wide.inRound l) n P Q a w := by
  have h := h _ rfl
  simp only [Region.lexTailB, Bool.and_eq_true, decide_eq_true_eq] at hB
  obtain ⟨⟨⟨⟨hsel, hn⟩, hs⟩, hc⟩, hlex⟩ := hB
  have htl : (t.take m).length = m := by simp at hn ⊢; omega
  have hdl : (t.drop m).length = t.toArray.size - m := by simp
  have inv0 : HeadInv .any t.toArray m (Array.replicate t.toArray.size false) :=
    ⟨by simp, fun j oj _ hl => (by rw [getD_replicate_false] at hl; cases hl), fun s _ hs => getD_in (by simpa using hs) (getD_replicate_false _ _)⟩
  have H := wpAnyL_lex (md := .any) (g := t.toArray.size - m) hsel hs hc hn (t.take m) 0 _ a (fun j hj => by
    have hj' : j < m := by rw [htl] at hj; exact hj
    simp [hj']) (by simpa using htl) inv0 (by rw [htl]; exact hlex) h
  refine wpIn_region_any hm ?_
  have hnd : ∀ (i : Nat) (o : Oper), t.toArray[i]? = some o → noDefer o = true := fun i o ho => List.all_eq_true.1 hd o (List.mem_of_getElem? (i := i) (by simpa using ho))
  have := round_head (l := l) (n := n) (Q' := Q) (g := t.toArray.size - m) hnd (fun listed a' hL => by
    have := round_seq (md := .any) (l := l) (n := n) (Q' := Q) (t.drop m) m listed a' w.drew (fun j => by simp [List.getElem?_drop]) (by rw [hdl]; exact hL.1) hL.2
    rwa [hdl] at this) _ _ _ H
  rw [htl, show m + (t.toArray.size - m) = t.toArray.size by simp at hn ⊢; omega] at this
  exact this
end Go.Proofs.Ytcemlacfldonlaa
