/- The plain law of Take: of messages with numbers of their own just one goes. -/
import Derived.Test.YtjlpbhmhnniodaaNetAt
import Derived.Test.YtjlpbhmhnniodaaMapGet
import Derived.Laws.BitsLemmas
namespace Go.Proofs.Ytjlpbhmhnniodaa
open Go.RowKit Go.Maps
open Nt
namespace Nt
/-- The numbers are different. -/
def Once (ms : List Msg) : Prop := (ms.map Msg.n).Nodup
theorem Once.inj {ms : List Msg} (h : Once ms) {x y : Msg} (hx : x ∈ ms) (hy : y ∈ ms) (e : x.n = y.n) : x = y := by
  induction ms with
  | nil => simp at hx
  | cons z ms ih =>
    unfold Once at h
    rw [List.map_cons, List.nodup_cons] at h
    rcases List.mem_cons.1 hx with h1 | h1
    · rcases List.mem_cons.1 hy with h2 | h2
      · rw [h1, h2]
      · exact absurd (show z.n ∈ ms.map Msg.n by rw [← h1, e]; exact List.mem_map_of_mem h2) h.1
    · rcases List.mem_cons.1 hy with h2 | h2
      · exact absurd (show z.n ∈ ms.map Msg.n by rw [← h2, ← e]; exact List.mem_map_of_mem h1) h.1
      · exact ih h.2 h1 h2
theorem Once.filter {ms : List Msg} (h : Once ms) (p : Msg → Bool) : Once (ms.filter p) := h.sublist (List.filter_sublist.map _)
theorem Once.less {ms : List Msg} (h : Once ms) {x : Msg} (hx : x ∈ ms) : (ms.filter fun y => !(y.n == x.n)).length + 1 = ms.length := by
  induction ms with
  | nil => simp at hx
  | cons z ms ih =>
    have h' := h
    unfold Once at h
    rw [List.map_cons, List.nodup_cons] at h
    rw [List.filter_cons]
    rcases List.mem_cons.1 hx with rfl | hx
    · rw [if_neg (by simp), List.filter_eq_self.2]
      · rfl
      · intro y hy
        simp only [Bool.not_eq_true', beq_eq_false_iff_ne]
        intro e
        exact h.1 (e ▸ List.mem_map_of_mem hy)
    · rw [if_pos (by simp only [Bool.not_eq_true', beq_eq_false_iff_ne]; intro e; exact h.1 (e ▸ List.mem_map_of_mem hx)), List.length_cons, ih h.2 hx, List.length_cons]
theorem filter_swap {α : Type} (p q : α → Bool) (l : List α) : (l.filter p).filter q = (l.filter q).filter p := by
  rw [List.filter_filter, List.filter_filter]
  congr 1
  funext x
  exact Bool.and_comm _ _
theorem taken_none {ms : List Msg} {D : List (Pair × Unit)} (pick : Int) (h : ms.filter (wantB D []) = []) : takenS ms D pick = none ∧ takeS ms D pick = ms := by
  have : takenS ms D pick = none := by unfold takenS; rw [h]; rfl
  refine ⟨this, ?_⟩
  unfold takeS
  rw [this]
theorem taken_some {ms : List Msg} {D : List (Pair × Unit)} (pick : Int) (h : ms.filter (wantB D []) ≠ []) : ∃ x, takenS ms D pick = some x ∧ x ∈ ms ∧ wantB D [] x = true ∧ takeS ms D pick = ms.filter fun y => !(y.n == x.n) := by
  have hl : 0 < (ms.filter (wantB D [])).length := List.length_pos_iff.2 h
  have hk := pickI_lt (n := (ms.filter (wantB D [])).length) pick hl
  have hx : takenS ms D pick = some ((ms.filter (wantB D []))[pickI (ms.filter (wantB D [])).length pick]) := by
    unfold takenS pickS
    exact List.getElem?_eq_getElem hk
  have hm := List.getElem_mem hk
  rw [List.mem_filter] at hm
  refine ⟨_, hx, hm.1, hm.2, ?_⟩
  unfold takeS
  rw [hx]
/-- One step: by how many the messages and those that wait are fewer. -/
theorem take_step {ms : List Msg} {D : List (Pair × Unit)} (hn : Once ms) (pick : Int) (h : ms.filter (wantB D []) ≠ []) :
    (takenS ms D pick).isSome = true ∧ Once (takeS ms D pick) ∧ (takeS ms D pick).length + 1 = ms.length ∧ ((takeS ms D pick).filter (wantB D [])).length + 1 = (ms.filter (wantB D [])).length := by
  obtain ⟨x, hx, hm, hw, ht⟩ := taken_some pick h
  rw [hx, ht]
  refine ⟨rfl, hn.filter _, hn.less hm, ?_⟩
  rw [filter_swap]
  exact (hn.filter _).less (List.mem_filter.2 ⟨hm, hw⟩)
theorem getL_put (D : List (Pair × Unit)) (p q : Pair) : (getL (putL D p ()) q).isSome = ((getL D q).isSome || decide (q = p)) := by
  rw [getL_isSome, getL_isSome, ← Bool.decide_or]
  exact decide_eq_decide.2 (putL_keys D p () q)
/-- Are these two cut off by one of the cuts? -/
def cutB (a b : Int) (l : List Pair) : Bool := l.any fun p => decide (p.1 ≠ p.2) && decide (ofP a b = ofP p.1 p.2)
def cutsS (l : List Pair) : List (Pair × Unit) := l.foldl (fun D p => cutS D p.1 p.2) []
theorem join_cuts (a b : Int) (l : List Pair) : joinB (cutsS l) a b = !cutB a b l := by
  have key : ∀ (l : List Pair) (D : List (Pair × Unit)), (getL (l.foldl (fun D p => cutS D p.1 p.2) D) (ofP a b)).isSome = ((getL D (ofP a b)).isSome || cutB a b l) := by
    intro l
    induction l with
    | nil => intro D; simp [cutB]
    | cons p l ih =>
      intro D
      rw [List.foldl_cons, ih]
      unfold cutS cutB
      rw [List.any_cons]
      by_cases e : p.1 = p.2
      · simp [e]
      · rw [if_neg e, getL_put]
        simp [e, Bool.or_assoc]
  unfold joinB cutsS
  rw [key]
  rfl
theorem cutsS_len (l : List Pair) : (cutsS l).length ≤ l.length := by
  have key : ∀ (l : List Pair) (D : List (Pair × Unit)), (l.foldl (fun D p => cutS D p.1 p.2) D).length ≤ D.length + l.length := by
    intro l
    induction l with
    | nil => intro D; simp
    | cons p l ih =>
      intro D
      rw [List.foldl_cons]
      refine Nat.le_trans (ih _) ?_
      have : (cutS D p.1 p.2).length ≤ D.length + 1 := by
        unfold cutS
        split
        · omega
        · unfold putL
          split <;> simp
      simp only [List.length_cons]
      omega
  simpa [cutsS] using key l []
theorem cutsS_snoc (l : List Pair) (p : Pair) : cutsS (l ++ [p]) = cutS (cutsS l) p.1 p.2 := by
  unfold cutsS
  rw [List.foldl_append]
  rfl
theorem heal_all (D : List (Pair × Unit)) : healS D [] = [] := by
  unfold healS
  rw [List.filter_eq_nil_iff]
  intro d _
  simp [healP]
def q4 (p : Pair) : Pair := (p.1 % 4, p.2 % 4)
theorem q4_ok (p : Pair) : okP (q4 p) := by
  unfold okP okI q4
  simp only
  omega
/-- What the law reckons of one cut. -/
theorem of_eq (a b c d : Int) : decide (ofP a b = ofP c d) = (decide (a = c) && decide (b = d) || decide (a = d) && decide (b = c)) := by
  rw [Bool.eq_iff_iff]
  unfold ofP
  simp only [decide_eq_true_eq, Bool.or_eq_true, Bool.and_eq_true, Prod.mk.injEq]
  omega
theorem cutB_snoc (a b : Int) (l : List Pair) (p : Pair) : cutB a b (l ++ [p]) = (cutB a b l || (decide (p.1 ≠ p.2) && (decide (a = p.1) && decide (b = p.2) || decide (a = p.2) && decide (b = p.1)))) := by
  unfold cutB
  rw [List.any_append, List.any_cons, List.any_nil, Bool.or_false, of_eq]
end Nt
theorem i64_and3 (n : Int) : bits .and .i64 n 3 = n % 4 := by
  have h3 : (BitVec.ofInt 64 3).toNat = 2 ^ 2 - 1 := by decide
  have key : (BitVec.ofInt 64 n &&& BitVec.ofInt 64 3).toNat = (n % ((2 ^ 64 : Nat) : Int)).toNat % 2 ^ 2 := by
    rw [BitVec.toNat_and, BitVec.toNat_ofInt, h3, Nat.and_two_pow_sub_one_eq_mod]
  show IntKind.i64.wrap ((BitVec.ofInt 64 n &&& BitVec.ofInt 64 3).toNat : Nat) = n % 4
  rw [key, IntKind.wrap_i64]
  omega
end Go.Proofs.Ytjlpbhmhnniodaa
