/- A slice that is handed in, opened: any elements; a row of cells below a bound. -/
import Derived.Test.YtcemlacfldonlaaBase
import Derived.Test.YtcemlacfldonlaaOpen
namespace Go.Proofs.Ytcemlacfldonlaa
open Go.ChangeShapes Go.WideShapes Go.ChangeAt Go.RowKit Go.ChangeMaps
/-- A row of cells in a block below N. -/
def ARow (w : World) (N : Nat) (A : Option Addr) (vs : List Value) : Prop := vs = [] ∨ ∃ blk o, A = some ⟨blk, o, none⟩ ∧ blk < N ∧ w.rangeAt blk o vs
theorem ARow.fr {w w' : World} {N B : Nat} {S : List Nat} {A : Option Addr} {vs : List Value} (h : ARow w N A vs) (hf : Fr B S w w') (hB : N ≤ B) (hS : ∀ k, k < N → k ∉ S) : ARow w' N A vs := by
  rcases h with h | ⟨blk, o, hA, hb, hr⟩
  · exact .inl h
  · refine .inr ⟨blk, o, hA, hb, fun j v hv => ?_⟩
    rw [hf.cell (p := ⟨blk, o + j, none⟩) (Nat.lt_of_lt_of_le hb hB) (hS _ hb)]
    exact hr j v hv
theorem ARow.mono {w : World} {N M : Nat} {A : Option Addr} {vs : List Value} (h : ARow w N A vs) (hN : N ≤ M) : ARow w M A vs := by
  rcases h with h | ⟨blk, o, hA, hb, hr⟩
  · exact .inl h
  · exact .inr ⟨blk, o, hA, Nat.lt_of_lt_of_le hb hN, hr⟩
theorem flatMap_len {α : Type} (cells : α → List Value) (c : Nat) (hlen : ∀ a, (cells a).length = c) : ∀ ts : List α, (ts.flatMap cells).length = ts.length * c
  | [] => by simp
  | t :: ts => by rw [List.flatMap_cons, List.length_append, hlen, flatMap_len cells c hlen ts, List.length_cons, Nat.add_mul]; omega
theorem flatMap_get {α : Type} (cells : α → List Value) (c : Nat) (hlen : ∀ a, (cells a).length = c) : ∀ (ts : List α) (i j : Nat) (hi : i < ts.length), j < c → (ts.flatMap cells)[i * c + j]? = (cells ts[i])[j]?
  | [], i, j, hi, _ => by simp at hi
  | t :: ts, 0, j, _, hj => by rw [List.flatMap_cons, Nat.zero_mul, Nat.zero_add, List.getElem?_append_left (by rw [hlen]; exact hj)]; rfl
  | t :: ts, i + 1, j, hi, hj => by
    rw [List.flatMap_cons, List.getElem?_append_right (by rw [hlen, Nat.add_mul]; omega), hlen, show (i + 1) * c + j - c = i * c + j by rw [Nat.add_mul]; omega]
    exact flatMap_get cells c hlen ts i j (by simpa using hi) hj
/-- The cells of an element. -/
theorem ARow.at {α : Type} {w : World} {N : Nat} {A : Option Addr} {cells : α → List Value} {c : Nat} {ts : List α} (h : ARow w N A (ts.flatMap cells)) (hlen : ∀ a, (cells a).length = c) (hc : 0 < c) (k : Nat) (hk : k < ts.length) :
    ∃ blk o, A = some ⟨blk, o, none⟩ ∧ blk < N ∧ ∀ j v, (cells ts[k])[j]? = some v → w.cell? ⟨blk, o + k * c + j, none⟩ = some v := by
  rcases h with h | ⟨blk, o, hA, hb, hr⟩
  · have := congrArg List.length h
    rw [flatMap_len cells c hlen, List.length_nil] at this
    have h2 : 0 < ts.length * c := Nat.mul_pos (by omega) hc
    omega
  · refine ⟨blk, o, hA, hb, fun j v hv => ?_⟩
    have hj : j < c := by have := (List.getElem?_eq_some_iff.1 hv).1; rwa [hlen] at this
    rw [Nat.add_assoc]
    exact hr _ v (by rw [flatMap_get cells c hlen ts k j hk hj]; exact hv)
theorem slice_of2 {H : Type} {enc : TypeId × Value → H} {P : Program} {W : World} {t e : TypeId} {v : Value} {d : DataW H} {ps : List MemPlace} {α : Type} [Inhabited α] (cells : α → List Value) (Q : α → DataW H → Prop) (c : Nat) (hc0 : 0 < c)
    (ht : P.underlying t = some (.slice e)) (hce : P.cellsOf e = c) (hlen : ∀ a, (cells a).length = c)
    (each : ∀ n cs x, DataW.trod enc P W 0 (fun _ => true) true n e cs = some x → ∃ a, cs = cells a ∧ Q a x.1)
    (hv : ∃ A n c, v = .slice A n c) (h : DataW.Trod enc P W 0 (fun _ => true) true t v d ps) :
    ∃ (A : Option Addr) (cap : Nat) (ts : List α), v = .slice A ts.length cap ∧ ARow W W.heap.size A (ts.flatMap cells) ∧ ts.length ≤ cap ∧ (A = none → cap = 0) ∧
      ((d = .nil ∧ ts = []) ∨ ∃ ds sp, d = .slice ds sp ∧ ds.length = ts.length ∧ ∀ i (h1 : i < ts.length) (h2 : i < ds.length), Q ts[i] ds[i]) := by
  obtain ⟨A, n, c0, rfl⟩ := hv
  obtain ⟨fuel, hf⟩ := h
  rcases Deep.open_slice ht hf with ⟨h1, hx⟩ | ⟨a, len, cap, m, f, D, Pl, h1, _, hlc, _, hm, hdx, hel⟩
  · simp only [Value.cells, List.cons.injEq, Value.slice.injEq, and_true] at h1
    obtain ⟨rfl, rfl, rfl⟩ := h1
    simp only [Prod.mk.injEq] at hx
    exact ⟨none, 0, [], rfl, .inl rfl, Nat.le_refl _, fun _ => rfl, .inl ⟨hx.1, rfl⟩⟩
  · simp only [Value.cells, List.cons.injEq, Value.slice.injEq, and_true] at h1
    obtain ⟨rfl, rfl, rfl⟩ := h1
    simp only [if_true] at hm
    obtain rfl : c0 = m := hm.symm
    rw [hce] at hel
    simp only [Prod.mk.injEq] at hdx
    obtain ⟨L, hL⟩ := Deep.choose_lt (α := α) (n := n) (p := fun i x => Q x (D i) ∧ ∀ j u, (cells x)[j]? = some u → W.cell? (a.add (i * c + j)) = some u) (fun i hi => by
      obtain ⟨cs', h1, h2⟩ := hel i (by omega)
      obtain ⟨x, rfl, hq⟩ := each _ _ _ h2
      obtain ⟨_, _, hc⟩ := World.cells?_some h1
      refine ⟨x, hq, fun j u hu => ?_⟩
      have hj : j < c := by have := (List.getElem?_eq_some_iff.1 hu).1; rwa [hlen] at this
      have := hc j hj
      rw [Deep.add_add] at this
      rw [this, hu])
    refine ⟨some a, c0, (List.range n).map L, by simp, ?_, by simpa using hlc, fun h => (by cases h), .inr ⟨(List.range n).map D, _, hdx.1, by simp, fun i h1 h2 => ?_⟩⟩
    · rcases Nat.eq_zero_or_pos n with rfl | hn
      · exact .inl rfl
      · have hs0 := (hL 0 hn).2 0 ((cells (L 0))[0]'(by rw [hlen]; exact hc0)) (List.getElem?_eq_getElem _)
        rw [Nat.zero_mul, Nat.zero_add] at hs0
        have hsp : a.spot = none := spot_no (a := a.add 0) hs0
        have hblk : a.block < W.heap.size := World.block_lt_of_cell? W _ hs0
        obtain ⟨b, o, sp⟩ := a
        simp only at hsp
        subst hsp
        refine .inr ⟨b, o, rfl, hblk, fun j u hu => ?_⟩
        have hj : j < n * c := by
          have := (List.getElem?_eq_some_iff.1 hu).1
          rw [flatMap_len cells c hlen] at this
          simpa using this
        have hi : j / c < n := by rw [Nat.div_lt_iff_lt_mul hc0]; exact hj
        have hr : j % c < c := Nat.mod_lt _ hc0
        have hjc : j / c * c + j % c = j := by rw [Nat.mul_comm]; exact Nat.div_add_mod j c
        have h3 := flatMap_get cells c hlen ((List.range n).map L) (j / c) (j % c) (by simpa using hi) hr
        rw [hjc, hu] at h3
        have h4 := (hL (j / c) hi).2 (j % c) u (by rw [h3]; simp)
        rw [hjc, Addr.add_mid] at h4
        exact h4
    · simp only [List.length_map, List.length_range] at h1
      simpa using (hL i h1).1
theorem slice_of {H : Type} {enc : TypeId × Value → H} {P : Program} {W : World} {base : Nat} {t e : TypeId} {v : Value} {d : DataW H} {ps : List MemPlace} {α : Type} [Inhabited α] (cells : α → List Value) (Q : α → DataW H → Prop) (c : Nat) (hc0 : 0 < c)
    (ht : P.underlying t = some (.slice e)) (hce : P.cellsOf e = c) (hlen : ∀ a, (cells a).length = c)
    (each : ∀ n cs x, DataW.trod enc P W 0 (fun _ => true) true n e cs = some x → ∃ a, cs = cells a ∧ Q a x.1)
    (hv : Value.okWide P W .any base t v) (h : DataW.Trod enc P W 0 (fun _ => true) true t v d ps) :
    ∃ (A : Option Addr) (cap : Nat) (ts : List α), v = .slice A ts.length cap ∧ ARow W W.heap.size A (ts.flatMap cells) ∧ ts.length ≤ cap ∧ (A = none → cap = 0) ∧
      ((d = .nil ∧ ts = []) ∨ ∃ ds sp, d = .slice ds sp ∧ ds.length = ts.length ∧ ∀ i (h1 : i < ts.length) (h2 : i < ds.length), Q ts[i] ds[i]) := by
  exact slice_of2 cells Q c hc0 ht hce hlen each (okWide_slice ht hv) h
/-- Elements of one cell. -/
theorem ints_of {H : Type} {enc : TypeId × Value → H} {P : Program} {W : World} {base : Nat} {t e : TypeId} {v : Value} {d : DataW H} {ps : List MemPlace} {k : IntKind}
    (ht : P.underlying t = some (.slice e)) (he : P.underlying e = some (.int k)) (hce : P.cellsOf e = 1)
    (hv : Value.okWide P W .any base t v) (h : DataW.Trod enc P W 0 (fun _ => true) true t v d ps) :
    ∃ (A : Option Addr) (cap : Nat) (ts : List Int), v = .slice A ts.length cap ∧ ARow W W.heap.size A (ts.flatMap fun n => [.int k n]) ∧ ts.length ≤ cap ∧ (A = none → cap = 0) ∧ (∀ n ∈ ts, (Lit.int k n).wf = true) ∧
      ((d = .nil ∧ ts = []) ∨ ∃ ds sp, d = .slice ds sp ∧ ds.length = ts.length) := by
  obtain ⟨A, cap, ts, h1, h2, h3, h4, h5⟩ := slice_of (α := Int) (fun n => [.int k n]) (fun n d => (Lit.int k n).wf = true) 1 (by decide) ht hce (fun _ => rfl)
    (fun n cs x hx => by obtain ⟨m, h1, _, h3⟩ := DataW.trod_int he hx; exact ⟨m, h1, h3⟩) hv h
  refine ⟨A, cap, ts, h1, h2, h3, h4, ?_, ?_⟩
  · rcases h5 with ⟨_, rfl⟩ | ⟨ds, sp, _, hl, hq⟩
    · simp
    · intro n hn
      obtain ⟨i, hi, rfl⟩ := List.getElem_of_mem hn
      exact hq i hi (by omega)
  · rcases h5 with h5 | ⟨ds, sp, hd, hl, _⟩
    · exact .inl h5
    · exact .inr ⟨ds, sp, hd, hl⟩
theorem strs_of {H : Type} {enc : TypeId × Value → H} {P : Program} {W : World} {base : Nat} {t e : TypeId} {v : Value} {d : DataW H} {ps : List MemPlace}
    (ht : P.underlying t = some (.slice e)) (he : P.underlying e = some .string) (hce : P.cellsOf e = 1)
    (hv : Value.okWide P W .any base t v) (h : DataW.Trod enc P W 0 (fun _ => true) true t v d ps) :
    ∃ (A : Option Addr) (cap : Nat) (ts : List ByteArray), v = .slice A ts.length cap ∧ ARow W W.heap.size A (ts.flatMap fun s => [.string s]) ∧ ts.length ≤ cap ∧ (A = none → cap = 0) ∧
      ((d = .nil ∧ ts = []) ∨ ∃ sp, d = .slice (ts.map fun s => .lit (.string s.data.toList)) sp) := by
  obtain ⟨A, cap, ts, h1, h2, h3, h4, h5⟩ := slice_of (α := ByteArray) (fun s => [.string s]) (fun s d => d = .lit (.string s.data.toList)) 1 (by decide) ht hce (fun _ => rfl)
    (fun n cs x hx => by obtain ⟨s, h1, h2, _⟩ := DataW.trod_string he hx; exact ⟨s, h1, by rw [h2]⟩) hv h
  refine ⟨A, cap, ts, h1, h2, h3, h4, ?_⟩
  rcases h5 with h5 | ⟨ds, sp, hd, hl, hq⟩
  · exact .inl h5
  · refine .inr ⟨sp, ?_⟩
    rw [hd]
    congr 1
    refine List.ext_getElem (by simpa using hl) (fun i h1 h2 => ?_)
    rw [List.getElem_map]
    exact hq i (by omega) h1
end Go.Proofs.Ytcemlacfldonlaa
