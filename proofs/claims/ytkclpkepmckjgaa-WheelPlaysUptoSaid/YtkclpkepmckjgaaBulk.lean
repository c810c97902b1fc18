/- What the bound on the bulk gives. -/
import Derived.Test.YtkclpkepmckjgaaRows
namespace Go.Proofs.Ytkclpkepmckjgaa
theorem bulk_one {H : Type} (d : DataW H) : 1 ≤ Rows.uptoBulk d := by
  cases d with
  | lit l => cases l <;> simp [Rows.uptoBulk]
  | nil => simp [Rows.uptoBulk]
  | ptr d => simp [Rows.uptoBulk]
  | slice elems spare => simp [Rows.uptoBulk]
  | agg parts => simp [Rows.uptoBulk]
  | iface t d => simp [Rows.uptoBulk]
  | map entries => simp [Rows.uptoBulk]
  | held h => simp [Rows.uptoBulk]
theorem bulk_len {H : Type} (l : List (DataW H)) : l.length ≤ Rows.uptoBulkAll l := by
  induction l with
  | nil => simp [Rows.uptoBulkAll]
  | cons x r ih => have := bulk_one x; simp only [Rows.uptoBulkAll, List.length_cons]; omega
theorem bulk_part {H : Type} {d : DataW H} {l : List (DataW H)} (h : d ∈ l) : Rows.uptoBulk d ≤ Rows.uptoBulkAll l := by
  induction l with
  | nil => cases h
  | cons x r ih =>
    simp only [Rows.uptoBulkAll]
    rcases List.mem_cons.1 h with e | e
    · subst e; omega
    · have := ih e; omega
theorem bulk_slice {H : Type} (ds sp : List (DataW H)) : Rows.uptoBulkAll ds + 1 ≤ Rows.uptoBulk (.slice ds sp) := by
  simp only [Rows.uptoBulk]; omega
theorem bulk_bound {H : Type} {l : List (DataW H)} (hk : Rows.uptoSmall H l = true) : Rows.uptoBulkAll l ≤ 1048576 := of_decide_eq_true hk
/-- A sum over elements, by their data's bulk. -/
theorem bulk_sum {H : Type} {α : Type} (f : α → Nat) (data : α → DataW H) (c : Nat) (h : ∀ a, f a ≤ c * Rows.uptoBulk (data a)) : ∀ ts : List α, (ts.map f).sum ≤ c * Rows.uptoBulkAll (ts.map data)
  | [] => by simp
  | t :: ts => by
    have h1 := h t
    have h2 := bulk_sum f data c h ts
    simp only [List.map_cons, List.sum_cons, Rows.uptoBulkAll, Nat.mul_add]
    omega
theorem flat_sum {α β : Type} (f : α → List β) : ∀ ts : List α, (ts.flatMap f).length = (ts.map fun t => (f t).length).sum
  | [] => rfl
  | t :: ts => by simp only [List.flatMap_cons, List.length_append, List.map_cons, List.sum_cons, flat_sum f ts]
end Go.Proofs.Ytkclpkepmckjgaa
