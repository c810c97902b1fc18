/- What the laws' lists hold. -/
import Derived.Test.YtkclpkepmckjgaaWhlNil
import Derived.Test.YtkclpkepmckjgaaBulk
import Derived.OpenShut
namespace Go.Proofs.Ytkclpkepmckjgaa
open Go.RowKit Go.Maps
open Wh
theorem cellsP3 : Try.prog.cellsOf 3 = 1 := by kernel_rfl
theorem cellsP9 : Try.prog.cellsOf 9 = 1 := by kernel_rfl
theorem cellsNames : Try.prog.cellsOf 30 = 1 := by kernel_rfl
theorem cellsOp : Try.prog.cellsOf 32 = 3 := by kernel_rfl
theorem okI_of {n : Int} (h : (Lit.int .i64 n).wf = true) : okI n := by
  simp only [Lit.wf, Bool.and_eq_true, decide_eq_true_eq] at h
  exact ⟨h.1, h.2⟩
structure Wh.WOp where
  kind : Int
  at_ : Int
  A : Option Addr
  c : Nat
  names : List Key
deriving Inhabited
def Wh.WOp.cells (o : WOp) : List Value := [.int .i64 o.kind, .int .i64 o.at_, .slice o.A o.names.length o.c]
def Wh.WOp.ok (W : World) (o : WOp) : Prop := okI o.kind ∧ okI o.at_ ∧ ARow W W.heap.size o.A (o.names.map KV)
theorem flat_one {α : Type} (f : α → Value) (l : List α) : (l.flatMap fun a => [f a]) = l.map f := by
  induction l with
  | nil => rfl
  | cons a l ih => rw [List.flatMap_cons, ih]; rfl
theorem names_cell {H : Type} {enc : TypeId × Value → H} {W : World} (m : Nat) (v : Value) (y : DataW H × List MemPlace) (h : DataW.trod enc Try.prog W 0 (fun _ => true) true m 30 [v] = some y) :
    ∃ (A : Option Addr) (c : Nat) (names : List Key), v = .slice A names.length c ∧ ARow W W.heap.size A (names.map KV) ∧ names.length ≤ Rows.uptoBulk y.1 := by
  have h1 : ∃ A n c, v = .slice A n c := by
    rcases DataW.trod_slice Try.underlying30 h with ⟨h, _⟩ | ⟨a', n, c, _, _, _, _, h, _⟩
    · simp only [List.cons.injEq, and_true] at h; exact ⟨_, _, _, h⟩
    · simp only [List.cons.injEq, and_true] at h; exact ⟨_, _, _, h⟩
  obtain ⟨A', n', c', rfl⟩ := h1
  obtain ⟨A, cap, ts, h2, h3, h4, h5, h6⟩ := slice_of2 (α := Key) (fun s => [KV s]) (fun _ _ => True) 1 (by decide) Try.underlying30 cellsP9 (fun _ => rfl)
    (fun n cs x hx => by obtain ⟨s, e1, e2, e3⟩ := DataW.trod_string Try.underlying9 hx; exact ⟨keyB s e3, by rw [KV_keyB]; exact e1, trivial⟩) (v := .slice A' n' c') (d := y.1) (ps := y.2) ⟨_, _, _, rfl⟩ ⟨m, h⟩
  refine ⟨A, cap, ts, h2, by rw [← flat_one]; exact h3, ?_⟩
  rcases h6 with ⟨_, rfl⟩ | ⟨ds, sp, e, hl, _⟩
  · simp
  · rw [e, ← hl]
    exact Nat.le_trans (bulk_len ds) (Nat.le_trans (Nat.le_succ _) (bulk_slice ds sp))
theorem op_each {H : Type} {enc : TypeId × Value → H} {W : World} (n : Nat) (cs : List Value) (x : DataW H × List MemPlace) (h : DataW.trod enc Try.prog W 0 (fun _ => true) true n 32 cs = some x) :
    ∃ o : WOp, cs = o.cells ∧ o.ok W ∧ o.names.length ≤ Rows.uptoBulk x.1 := by
  obtain ⟨xs, m, _, rfl, hl, hlen, hf⟩ := DataW.trod_struct Try.underlying32 h
  rw [cellsOp] at hl
  match cs, hl with
  | [a0, a1, a2], _ =>
    have h0 : DataW.trod enc Try.prog W 0 (fun _ => true) true m 3 ((([a0, a1, a2] : List Value).drop 0).take (Try.prog.cellsOf 3)) = xs[0]? := hf 0 _ rfl
    have h1 : DataW.trod enc Try.prog W 0 (fun _ => true) true m 3 ((([a0, a1, a2] : List Value).drop 1).take (Try.prog.cellsOf 3)) = xs[1]? := hf 1 _ rfl
    have h2 : DataW.trod enc Try.prog W 0 (fun _ => true) true m 30 ((([a0, a1, a2] : List Value).drop 2).take (Try.prog.cellsOf 30)) = xs[2]? := hf 2 _ rfl
    rw [cellsP3] at h0 h1
    rw [cellsNames] at h2
    simp only [List.drop_zero, List.take_succ_cons, List.take_zero, List.drop_succ_cons] at h0 h1 h2
    match xs, hlen with
    | [y0, y1, y2], _ =>
      obtain ⟨k, e0, _, w0⟩ := DataW.trod_int Try.underlying3 h0
      obtain ⟨a, e1, _, w1⟩ := DataW.trod_int Try.underlying3 h1
      obtain ⟨A, c, names, e2, hr, hb⟩ := names_cell _ _ y2 h2
      simp only [List.cons.injEq, and_true] at e0 e1
      subst e0 e1 e2
      refine ⟨⟨k, a, A, c, names⟩, rfl, ⟨okI_of w0, okI_of w1, hr⟩, Nat.le_trans hb ?_⟩
      show _ ≤ Rows.uptoBulk (DataW.agg [y0.1, y1.1, y2.1])
      simp only [Rows.uptoBulk, Rows.uptoBulkAll]
      omega
theorem ops_of {H : Type} {enc : TypeId × Value → H} {W : World} {base : Nat} {v : Value} {d : DataW H} {ps : List MemPlace}
    (hv : Value.okWide Try.prog W .any base 22 v) (h : DataW.Trod enc Try.prog W 0 (fun _ => true) true 22 v d ps) :
    ∃ (A : Option Addr) (cap : Nat) (ts : List WOp), v = .slice A ts.length cap ∧ ARow W W.heap.size A (ts.flatMap WOp.cells) ∧ ts.length ≤ cap ∧ (A = none → cap = 0) ∧ (∀ t ∈ ts, t.ok W) ∧ ∀ t ∈ ts, t.names.length ≤ Rows.uptoBulk d := by
  obtain ⟨A, cap, ts, h1, h2, h3, h4, h5⟩ := slice_of (α := WOp) WOp.cells (fun t d => t.ok W ∧ t.names.length ≤ Rows.uptoBulk d) 3 (by decide) Try.underlying22 cellsOp (fun _ => rfl) (fun n cs x hx => op_each n cs x hx) hv h
  refine ⟨A, cap, ts, h1, h2, h3, h4, ?_, ?_⟩
  · rcases h5 with ⟨_, rfl⟩ | ⟨ds, sp, _, hl, hq⟩
    · simp
    · intro t ht
      obtain ⟨i, hi, rfl⟩ := List.getElem_of_mem ht
      exact (hq i hi (by omega)).1
  · rcases h5 with ⟨_, rfl⟩ | ⟨ds, sp, e, hl, hq⟩
    · simp
    · intro t ht
      obtain ⟨i, hi, rfl⟩ := List.getElem_of_mem ht
      have h6 := (hq i hi (by omega)).2
      have h7 := bulk_part (List.getElem_mem (l := ds) (n := i) (by omega))
      have h8 := bulk_slice ds sp
      rw [e]
      omega
namespace Wh
theorem WAt.rebase {B B' : Nat} {K : List Nat} {w w0 W : World} {g : Nat} {n : Int} {L : List (Key × Int)} (h : WAt B K w0 W g n L) (hB : B' ≤ B) (hf : Fr B' [] w w0) : WAt B' K w W g n L := by
  obtain ⟨F, D, LT, h1, o1, o2, h2, h3, h4⟩ := h
  exact ⟨F, D, LT, h1, o1, o2, fun q hq => ⟨Nat.le_trans hB (h2 q hq).1, (h2 q hq).2⟩, h3, hf.trans (h4.mono hB (by simp))⟩
theorem str_beq {x y : Key} {s t : ByteArray} (hs : KV x = .string s) (ht : KV y = .string t) : (s.toList == t.toList) = decide (x = y) := by
  have h1 : s = ⟨x.1.toArray⟩ := by unfold KV encStr at hs; injection hs with hs; exact hs.symm
  have h2 : t = ⟨y.1.toArray⟩ := by unfold KV encStr at ht; injection ht with ht; exact ht.symm
  rw [h1, h2, Lib.toList_data, Lib.toList_data]
  by_cases h : x = y
  · subst h; simp
  · have h2 : x.1 ≠ y.1 := fun e => h (Subtype.ext e)
    simp [h, h2]
theorem OutRow.one {W W' : World} {base c b : Nat} {A : Option Addr} {xs : List Key} (h : OutRow W base A c xs) (o : One b W W') (hb : b < base) : OutRow W' base A c xs := by
  rcases h with h1 | ⟨blk, cs, rfl, h1, h2, h3⟩
  · exact .inl h1
  · exact .inr ⟨blk, cs, rfl, h1, h2.one o (by omega), h3⟩
theorem OutRow.drew {W : World} {base c : Nat} {A : Option Addr} {xs : List Key} (h : OutRow W base A c xs) : OutRow W.drew base A c xs := h
theorem op_at {w : World} {A : Option Addr} {ops : List WOp} (hA : ARow w w.heap.size A (ops.flatMap WOp.cells)) (k : Nat) (hk : k < ops.length) :
    ∃ blk o, A = some ⟨blk, o, none⟩ ∧ blk < w.heap.size ∧ ∀ W, Fr w.heap.size [] w W → W.cell? ⟨blk, o + k * 3, none⟩ = some (.int .i64 ops[k].kind) ∧ W.cell? ⟨blk, o + k * 3 + 1, none⟩ = some (.int .i64 ops[k].at_) ∧ W.cell? ⟨blk, o + k * 3 + 2, none⟩ = some (.slice ops[k].A ops[k].names.length ops[k].c) := by
  obtain ⟨blk, o, h1, h2, h3⟩ := hA.at (cells := WOp.cells) (c := 3) (fun _ => rfl) (by decide) k hk
  refine ⟨blk, o, h1, h2, fun W hf => ⟨?_, ?_, ?_⟩⟩
  · exact (hf.cell (p := ⟨blk, o + k * 3, none⟩) h2 (by simp)).trans (h3 0 _ rfl)
  · exact (hf.cell (p := ⟨blk, o + k * 3 + 1, none⟩) h2 (by simp)).trans (h3 1 _ rfl)
  · exact (hf.cell (p := ⟨blk, o + k * 3 + 2, none⟩) h2 (by simp)).trans (h3 2 _ rfl)
end Wh
end Go.Proofs.Ytkclpkepmckjgaa
