/- QuorumMeets: plain. -/
import Derived.Test.YtcemlacfldonlaaQuoAwake
namespace Go.Proofs.Ytcemlacfldonlaa
open Go.RowKit
/-- The targets 1 .. N, of which those that f names said yes. -/
def LQ (N : Nat) (f : Nat → Bool) : List Tg := (List.range N).map fun i : Nat => ⟨(i : Int) + 1, (i : Int) + 1, if f i = true then 1 else 0, none⟩
def tsQ (N : Nat) : List (Int × Int) := (List.range N).map fun i : Nat => ((i : Int) + 1, (i : Int) + 1)
theorem lq_len (N : Nat) (f : Nat → Bool) : (LQ N f).length = N := by simp [LQ]
theorem tsq_len (N : Nat) : (tsQ N).length = N := by simp [tsQ]
theorem tsq_succ (N : Nat) : tsQ (N + 1) = tsQ N ++ [((N : Int) + 1, (N : Int) + 1)] := by simp [tsQ, List.range_succ]
theorem lq_nod (N : Nat) (f : Nat → Bool) : ((LQ N f).map Tg.node).Nodup := by
  have : (LQ N f).map Tg.node = (List.range N).map fun i : Nat => (i : Int) + 1 := by simp [LQ, Function.comp_def]
  rw [this, List.nodup_iff_pairwise_ne, List.pairwise_map]
  exact (List.nodup_iff_pairwise_ne.1 List.nodup_range).imp fun h e => h (by omega)
theorem newl_q : ∀ N : Nat, newL (tsQ N) = LQ N (fun _ => false)
  | 0 => rfl
  | N + 1 => by
    rw [tsq_succ, newL, List.foldl_append]
    have ih := newl_q N
    rw [newL] at ih
    rw [ih]
    simp only [List.foldl_cons, List.foldl_nil, addT]
    rw [if_neg]
    · simp [LQ, List.range_succ]
    · intro h
      obtain ⟨x, hx, he⟩ := List.any_eq_true.1 h
      obtain ⟨i, hi, rfl⟩ := List.mem_map.1 hx
      have := List.mem_range.1 hi
      have he := of_decide_eq_true he
      simp at he
      omega
theorem say_q (N q : Nat) (f : Nat → Bool) (hf : f q = false) : sayL 1 ((q : Int) + 1) (LQ N f) = LQ N (fun i => f i || decide (i = q)) := by
  unfold sayL LQ
  rw [List.map_map]
  apply List.map_congr_left
  intro i hi
  simp only [Function.comp_def, newB]
  by_cases e : i = q
  · subst e
    simp [hf]
  · have h1 : ¬ ((i : Int) + 1 = (q : Int) + 1) := by omega
    simp [h1, e]
theorem cnt_q (N : Nat) (f : Nat → Bool) : cntN 1 (LQ N f) = (List.range N).countP f := by
  unfold cntN LQ
  rw [← List.countP_eq_length_filter, List.countP_map]
  apply List.countP_congr
  intro i hi
  simp only [Function.comp_def, cntB]
  cases f i <;> simp
theorem verd_q {N : Nat} {f : Nat → Bool} {n : Int} (h : verdN n 0 (LQ N f) = 1) : n ≤ (List.range N).countP f := by
  unfold verdN at h
  rw [← cnt_q]
  split at h
  · rename_i h1; exact h1.1
  · split at h
    · exact absurd h (by decide)
    · exact absurd h (by decide)
theorem pigeon (f g : Nat → Bool) : ∀ N : Nat, (List.range N).countP f + (List.range N).countP g ≤ N + (List.range N).countP (fun i => f i && g i)
  | 0 => by simp
  | N + 1 => by
    have ih := pigeon f g N
    simp only [List.range_succ, List.countP_append, List.countP_cons, List.countP_nil]
    cases f N <;> cases g N <;> simp <;> omega
theorem meets_q {N : Nat} {f g : Nat → Bool} {n0 n1 : Int} (h0 : verdN n0 0 (LQ N f) = 1) (h1 : verdN n1 0 (LQ N g) = 1) (h : (N : Int) < n0 + n1) : (List.range N).any (fun i => f i && g i) = true := by
  have := verd_q h0
  have := verd_q h1
  have := pigeon f g N
  have hp : 0 < (List.range N).countP (fun i => f i && g i) := by omega
  rw [List.countP_pos_iff] at hp
  exact List.any_eq_true.2 hp
/-- What was asked of the first q. -/
def upQ (rs : List Bool) (q : Nat) : Nat → Bool := fun i => decide (i < q) && rs.getD i false
theorem upq_zero (rs : List Bool) : upQ rs 0 = fun _ => false := by funext i; simp [upQ]
theorem upq_self (rs : List Bool) (q : Nat) : upQ rs q q = false := by simp [upQ]
theorem upq_true {rs : List Bool} {q : Nat} (h : rs.getD q false = true) : (fun i => upQ rs q i || decide (i = q)) = upQ rs (q + 1) := by
  funext i
  unfold upQ
  by_cases e : i = q
  · subst e; rw [h]; simp
  · have : decide (i < q + 1) = decide (i < q) := by apply decide_eq_decide.2; omega
    rw [this]; simp [e]
theorem upq_false {rs : List Bool} {q : Nat} (h : rs.getD q false = false) : upQ rs q = upQ rs (q + 1) := by
  funext i
  unfold upQ
  by_cases e : i = q
  · subst e; rw [h]; simp
  · have : decide (i < q + 1) = decide (i < q) := by apply decide_eq_decide.2; omega
    rw [this]
def bothQ (rs ws : List Bool) (q : Nat) : Bool := (List.range q).any fun i => rs.getD i false && ws.getD i false
theorem both_step (rs ws : List Bool) (q : Nat) : bothQ rs ws (q + 1) = (bothQ rs ws q || (rs.getD q false && ws.getD q false)) := by
  simp [bothQ, List.range_succ]
theorem both_end {rs ws : List Bool} {N : Nat} {n0 n1 : Int} (h0 : verdN n0 0 (LQ N (upQ rs N)) = 1) (h1 : verdN n1 0 (LQ N (upQ ws N)) = 1) (h : (N : Int) < n0 + n1) : bothQ rs ws N = true := by
  have h2 := meets_q h0 h1 h
  obtain ⟨i, hi, hb⟩ := List.any_eq_true.1 h2
  refine List.any_eq_true.2 ⟨i, hi, ?_⟩
  simp only [upQ, Bool.and_eq_true, decide_eq_true_eq] at hb ⊢
  exact ⟨hb.1.2, hb.2.2⟩
end Go.Proofs.Ytcemlacfldonlaa
