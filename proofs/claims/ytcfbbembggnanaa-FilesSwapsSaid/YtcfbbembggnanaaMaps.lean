/- Maps in memory as lists of keys and values of one's own types: look-up, store, delete, range with deletes. -/
import Derived.Test.YtcfbbembggnanaaBase
import Derived.Maps.Keyed
import Derived.Maps.RangeRun
namespace Go.Proofs.Ytcfbbembggnanaa
open Go.RowKit Go.Maps Go.ChangeMaps
/-- How keys stand as values. -/
structure KeyEnc {α : Type} (P : Program) (k : TypeId) (enc : α → Value) (ok : α → Prop) : Prop where
  keyed : Keyed P k
  key : ∀ a, ok a → ∃ l, keyOf P k (enc a) = some l
  inj : ∀ a b, enc a = enc b → a = b
/-- The map in block b holds these entries. -/
def MapIs {α β : Type} (encK : α → Value) (encV : β → Value) (w : World) (b : Nat) (D : List (α × β)) : Prop :=
  ∃ es clock, w.heap[b]? = some (.map es clock) ∧ es.toList.map (fun e => (e.key, e.val)) = D.map (fun d => (encK d.1, encV d.2)) ∧ (∀ e ∈ es.toList, e.born < clock) ∧ (es.toList.map (·.born)).Nodup ∧ (D.map Prod.fst).Nodup
def putL {α β : Type} [DecidableEq α] (D : List (α × β)) (a : α) (v : β) : List (α × β) := if a ∈ D.map Prod.fst then D.map (fun d => if d.1 = a then (a, v) else d) else D ++ [(a, v)]
section
variable {α β : Type} {encK : α → Value} {encV : β → Value} {P : Program} {k e t : TypeId} {ok : α → Prop} {w : World} {b : Nat} {D : List (α × β)}
theorem MapIs.new (w : World) : MapIs encK encV (w.alloc (.map #[] 0)) w.heap.size ([] : List (α × β)) := ⟨#[], 0, heap_alloc_new w _, rfl, by simp, by simp, by simp⟩
theorem MapIs.lt (h : MapIs encK encV w b D) : b < w.heap.size := by
  obtain ⟨es, clock, hb, _⟩ := h
  rcases Nat.lt_or_ge b w.heap.size with h | h
  · exact h
  · simp [Array.getElem?_eq_none h] at hb
theorem MapIs.block {w' : World} (h : MapIs encK encV w b D) (hb : w'.heap[b]? = w.heap[b]?) : MapIs encK encV w' b D := by
  obtain ⟨es, clock, h1, h2⟩ := h
  exact ⟨es, clock, hb.trans h1, h2⟩
theorem MapIs.drew (h : MapIs encK encV w b D) : MapIs encK encV w.drew b D := h
theorem MapIs.alloc (h : MapIs encK encV w b D) (o : Obj) : MapIs encK encV (w.alloc o) b D := h.block (Below.heap_alloc w o b h.lt)
theorem MapIs.fr {B : Nat} {S : List Nat} {w' : World} (h : MapIs encK encV w b D) (hf : Fr B S w w') (hb : b < B) (hs : b ∉ S) : MapIs encK encV w' b D := h.block (hf.block b hb hs)
theorem entry_of {es : List MapEntry} (h : es.map (fun e => (e.key, e.val)) = D.map (fun d => (encK d.1, encV d.2))) (j : Nat) (x : MapEntry) (hx : es[j]? = some x) : ∃ d, D[j]? = some d ∧ x.key = encK d.1 ∧ x.val = encV d.2 := by
  have := congrArg (·[j]?) h
  simp only [List.getElem?_map, hx, Option.map_some] at this
  cases hd : D[j]? with
  | none => rw [hd] at this; simp at this
  | some d =>
    rw [hd] at this
    simp only [Option.map_some, Option.some.injEq, Prod.mk.injEq] at this
    exact ⟨d, rfl, this.1, this.2⟩
theorem entry_to {es : List MapEntry} (h : es.map (fun e => (e.key, e.val)) = D.map (fun d => (encK d.1, encV d.2))) (d : α × β) (hd : d ∈ D) : ∃ x ∈ es, x.key = encK d.1 ∧ x.val = encV d.2 := by
  have : (encK d.1, encV d.2) ∈ es.map (fun e => (e.key, e.val)) := by rw [h]; exact List.mem_map_of_mem hd
  obtain ⟨x, hx, hx2⟩ := List.mem_map.1 this
  simp only [Prod.mk.injEq] at hx2
  exact ⟨x, hx, hx2.1, hx2.2⟩
theorem keys_of (E : KeyEnc P k encK ok) (hD : ∀ d ∈ D, ok d.1) {es : List MapEntry} (h : es.map (fun e => (e.key, e.val)) = D.map (fun d => (encK d.1, encV d.2))) : ∀ x ∈ es, ∃ l, keyOf P k x.key = some l := by
  intro x hx
  obtain ⟨j, hj⟩ := List.getElem?_of_mem hx
  obtain ⟨d, hd, hk, _⟩ := entry_of h j x hj
  rw [hk]
  exact E.key _ (hD d (List.mem_of_getElem? hd))
/-- What findKey finds. -/
theorem find_is (E : KeyEnc P k encK ok) (hD : ∀ d ∈ D, ok d.1) {es : List MapEntry} (h : es.map (fun e => (e.key, e.val)) = D.map (fun d => (encK d.1, encV d.2))) (W : World) {a : α} (ha : ok a) :
    ((Instr.findKey k (encK a) es).run P W = .ok none W ∧ ∀ d ∈ D, d.1 ≠ a) ∨ ∃ j v, (Instr.findKey k (encK a) es).run P W = .ok (some (j, encV v)) W ∧ D[j]? = some (a, v) ∧ ∃ x, es[j]? = some x ∧ x.key = encK a := by
  obtain ⟨l, hl⟩ := E.key a ha
  rcases E.keyed.find W hl es (keys_of E hD h) with ⟨h1, h2⟩ | ⟨j, x, h1, h2, h3⟩
  · refine .inl ⟨h1, fun d hd hne => ?_⟩
    obtain ⟨x, hx, hk, _⟩ := entry_to h d hd
    exact h2 x hx (by rw [hk, hne])
  · obtain ⟨d, hd, hk, hv⟩ := entry_of h j x h2
    have : d.1 = a := E.inj _ _ (hk.symm.trans h3)
    exact .inr ⟨j, d.2, by rw [h1, hv], by rw [hd, ← this], x, h2, h3⟩
variable [DecidableEq α]
/-- What the map says of a. -/
def getL (D : List (α × β)) (a : α) : Option β := D.lookup a
theorem lookup_none_of {a : α} (h : ∀ d ∈ D, d.1 ≠ a) : getL D a = none := by
  unfold getL
  rw [List.lookup_eq_none_iff]
  intro d hd
  simpa using (h d hd).symm
theorem lookup_mem {a : α} {v : β} : ∀ {D : List (α × β)}, (D.map Prod.fst).Nodup → (a, v) ∈ D → getL D a = some v
  | [], _, h => by simp at h
  | (x, y) :: D, hn, h => by
    rw [List.map_cons, List.nodup_cons] at hn
    unfold getL
    rw [List.lookup_cons]
    rcases List.mem_cons.1 h with h1 | h1
    · cases h1; simp
    · have : a ≠ x := fun e => hn.1 (by subst e; exact List.mem_map.2 ⟨_, h1, rfl⟩)
      rw [show (a == x) = false by simpa using this]
      exact lookup_mem hn.2 h1
/-- The look-up. -/
theorem MapIs.look (E : KeyEnc P k encK ok) (ht : P.underlying t = some (.map k e)) (h : MapIs encK encV w b D) (hD : ∀ d ∈ D, ok d.1) {z : Value} (hz : (zeroValue e).run P w = .ok z w) {a : α} (ha : ok a) :
    (Instr.lookup t (.map (some b)) (encK a) false).run P w = .ok (((getL D a).map encV).getD z) w := by
  obtain ⟨es, clock, hb, hes, _, _, hn⟩ := h
  obtain ⟨l, hl⟩ := E.key a ha
  rcases find_is E hD hes w ha with ⟨h1, h2⟩ | ⟨j, v, h1, h2, _⟩
  · rw [lookup_none_of h2]
    simp [Instr.lookup, run_underlying ht, MapKept.run_getObj_map hb, E.keyed.check w _ hl, h1, hz, Result.andThen]
  · rw [lookup_mem hn (List.mem_of_getElem? h2)]
    simp [Instr.lookup, run_underlying ht, MapKept.run_getObj_map hb, E.keyed.check w _ hl, h1, Result.andThen]
theorem MapIs.look_ok (E : KeyEnc P k encK ok) (ht : P.underlying t = some (.map k e)) (h : MapIs encK encV w b D) (hD : ∀ d ∈ D, ok d.1) {z : Value} (hz : (zeroValue e).run P w = .ok z w) {a : α} (ha : ok a) :
    (Instr.lookup t (.map (some b)) (encK a) true).run P w = .ok (.tuple #[((getL D a).map encV).getD z, .bool (getL D a).isSome]) w := by
  obtain ⟨es, clock, hb, hes, _, _, hn⟩ := h
  obtain ⟨l, hl⟩ := E.key a ha
  rcases find_is E hD hes w ha with ⟨h1, h2⟩ | ⟨j, v, h1, h2, _⟩
  · rw [lookup_none_of h2]
    simp [Instr.lookup, run_underlying ht, MapKept.run_getObj_map hb, E.keyed.check w _ hl, h1, hz, Result.andThen]
  · rw [lookup_mem hn (List.mem_of_getElem? h2)]
    simp [Instr.lookup, run_underlying ht, MapKept.run_getObj_map hb, E.keyed.check w _ hl, h1, Result.andThen]
end
theorem setBlock_one (w : World) (b : Nat) (o : Obj) : One b w (setBlock w b o) := by
  refine ⟨rfl, rfl, rfl, by simp [setBlock], fun k hk => ?_⟩
  simp only [setBlock, Array.getElem?_setIfInBounds]
  rw [if_neg (Ne.symm hk)]
theorem setBlock_at {w : World} {b : Nat} (o : Obj) (hb : b < w.heap.size) : (setBlock w b o).heap[b]? = some o := by
  simp [setBlock, hb]
section
variable {α β : Type} [DecidableEq α] {encK : α → Value} {encV : β → Value} {P : Program} {k e t : TypeId} {ok : α → Prop} {w : World} {b : Nat} {D : List (α × β)}
omit [DecidableEq α] in
theorem nodup_at {a : α} {i j : Nat} {x y : α × β} (hn : (D.map Prod.fst).Nodup) (hi : D[i]? = some x) (hj : D[j]? = some y) (hx : x.1 = a) (hy : y.1 = a) : i = j := by
  obtain ⟨hil, hi⟩ := List.getElem?_eq_some_iff.1 hi
  obtain ⟨hjl, hj⟩ := List.getElem?_eq_some_iff.1 hj
  have hp := List.pairwise_iff_getElem.1 hn
  have he : (D.map Prod.fst)[i]'(by simpa using hil) = (D.map Prod.fst)[j]'(by simpa using hjl) := by rw [List.getElem_map, List.getElem_map, hi, hj, hx, hy]
  rcases Nat.lt_trichotomy i j with h | h | h
  · exact absurd he (hp i j (by simpa using hil) (by simpa using hjl) h)
  · exact h
  · exact absurd he.symm (hp j i (by simpa using hjl) (by simpa using hil) h)
theorem putL_set {a : α} {v v0 : β} {j : Nat} (hn : (D.map Prod.fst).Nodup) (hj : D[j]? = some (a, v0)) : putL D a v = D.set j (a, v) := by
  unfold putL
  rw [if_pos (List.mem_map.2 ⟨_, List.mem_of_getElem? hj, rfl⟩)]
  apply List.ext_getElem?
  intro i
  rw [List.getElem?_map, List.getElem?_set]
  have hjl := (List.getElem?_eq_some_iff.1 hj).1
  by_cases hij : j = i
  · subst hij
    rw [if_pos rfl, hj]
    simp [hjl]
  · rw [if_neg hij]
    cases hi : D[i]? with
    | none => rfl
    | some x =>
      have : x.1 ≠ a := fun hx => hij (nodup_at hn hj hi rfl hx)
      simp [this]
theorem putL_new {a : α} {v : β} (h : ∀ d ∈ D, d.1 ≠ a) : putL D a v = D ++ [(a, v)] := by
  unfold putL
  rw [if_neg]
  intro hm
  obtain ⟨d, hd, he⟩ := List.mem_map.1 hm
  exact h d hd he
theorem filter_set {a : α} {v0 : β} {j : Nat} (hn : (D.map Prod.fst).Nodup) (hj : D[j]? = some (a, v0)) : D.filter (fun d => decide (d.1 ≠ a)) = D.eraseIdx j := by
  have := filter_eq_eraseIdx (fun d : α × β => decide (d.1 = a)) D j _ hj (by simp) ?_
  · rw [← this]
    congr 1
    funext d
    simp
  · rw [List.pairwise_iff_getElem]
    intro i i' hi hi' hlt ⟨h1, h2⟩
    have := nodup_at hn (List.getElem?_eq_getElem hi) (List.getElem?_eq_getElem hi') (by simpa using h1) (by simpa using h2)
    omega
theorem filter_new {a : α} (h : ∀ d ∈ D, d.1 ≠ a) : D.filter (fun d => decide (d.1 ≠ a)) = D := List.filter_eq_self.2 fun d hd => by simpa using h d hd
/-- m[a] = v -/
theorem MapIs.put (E : KeyEnc P k encK ok) (ht : P.underlying t = some (.map k e)) (h : MapIs encK encV w b D) (hD : ∀ d ∈ D, ok d.1) {a : α} (ha : ok a) (v : β) :
    ∃ w', (Instr.mapUpdate t (.map (some b)) (encK a) (encV v)).run P w = .ok () w' ∧ MapIs encK encV w' b (putL D a v) ∧ One b w w' := by
  have hlt := h.lt
  obtain ⟨es, clock, hb, hes, hbn, hnd, hn⟩ := h
  obtain ⟨l, hl⟩ := E.key a ha
  rcases find_is E hD hes w ha with ⟨h1, h2⟩ | ⟨j, v0, h1, h2, x, hx, hxk⟩
  · refine ⟨setBlock w b (.map (es.push ⟨encK a, encV v, clock⟩) (clock + 1)), ?_, ⟨_, _, setBlock_at _ hlt, ?_, ?_, ?_, ?_⟩, setBlock_one _ _ _⟩
    · simp [Instr.mapUpdate, run_underlying ht, MapKept.run_getObj_map hb, E.keyed.check w false hl, h1, MapKept.run_setObj_map _ hb, Result.andThen, setBlock]
    · rw [Array.toList_push, List.map_append, hes, putL_new h2, List.map_append]
      rfl
    · intro x hx
      rw [Array.toList_push, List.mem_append] at hx
      rcases hx with hx | hx
      · have := hbn x hx; omega
      · simp only [List.mem_singleton] at hx; subst hx; exact Nat.lt_succ_self _
    · rw [Array.toList_push, List.map_append, List.nodup_append]
      refine ⟨hnd, by simp, ?_⟩
      intro y hy z hz
      obtain ⟨x, hx, rfl⟩ := List.mem_map.1 hy
      have := hbn x hx
      simp at hz
      omega
    · rw [putL_new h2, List.map_append, List.nodup_append]
      refine ⟨hn, by simp, ?_⟩
      intro y hy z hz
      obtain ⟨x, hx, rfl⟩ := List.mem_map.1 hy
      simp at hz
      subst hz
      exact h2 x hx
  · have hjl : j < es.toList.length := (List.getElem?_eq_some_iff.1 hx).1
    have hj : es[j]? = some x := by simpa using hx
    have hlist : (es.modify j (fun e' => { e' with key := encK a, val := encV v })).toList = es.toList.set j { x with key := encK a, val := encV v } := by rw [Array.toList_modify, modify_eq_set _ _ _ _ hx]
    refine ⟨setBlock w b (.map (es.modify j (fun e' => { e' with key := encK a, val := encV v })) clock), ?_, ⟨_, _, setBlock_at _ hlt, ?_, ?_, ?_, ?_⟩, setBlock_one _ _ _⟩
    · simp [Instr.mapUpdate, run_underlying ht, MapKept.run_getObj_map hb, E.keyed.check w false hl, h1, hj, hxk, E.keyed.stays w hl, MapKept.run_setObj_map _ hb, Result.andThen, setBlock]
    · rw [hlist, List.map_set, hes, putL_set hn h2, List.map_set]
    · intro y hy
      rw [hlist] at hy
      rcases List.mem_or_eq_of_mem_set hy with hy | rfl
      · exact hbn y hy
      · exact hbn x (List.mem_of_getElem? hx)
    · rw [hlist, List.map_set]
      have : (es.toList.map (·.born)).set j x.born = es.toList.map (·.born) := by
        apply List.ext_getElem?
        intro i
        rw [List.getElem?_set]
        split
        · rename_i h; subst h
          rw [List.getElem?_map, hx, if_pos (by rw [List.length_map]; exact hjl)]
          rfl
        · rfl
      rw [this]
      exact hnd
    · rw [putL_set hn h2, List.map_set]
      have : (D.map Prod.fst).set j a = D.map Prod.fst := by
        apply List.ext_getElem?
        intro i
        rw [List.getElem?_set]
        split
        · rename_i h; subst h
          rw [List.getElem?_map, h2]
          simp [(List.getElem?_eq_some_iff.1 h2).1]
        · rfl
      rw [this]
      exact hn
/-- delete(m, a) -/
theorem MapIs.del (E : KeyEnc P k encK ok) (ht : P.underlying t = some (.map k e)) (h : MapIs encK encV w b D) (hD : ∀ d ∈ D, ok d.1) {a : α} (ha : ok a) (ty : TypeId) :
    ∃ w', (Builtin.delete_ #[t, k] ty #[.map (some b), encK a]).run P w = .ok (.tuple #[]) w' ∧ MapIs encK encV w' b (D.filter (fun d => decide (d.1 ≠ a))) ∧ One b w w' := by
  have hlt := h.lt
  obtain ⟨es, clock, hb, hes, hbn, hnd, hn⟩ := h
  obtain ⟨l, hl⟩ := E.key a ha
  rcases find_is E hD hes w ha with ⟨h1, h2⟩ | ⟨j, v0, h1, h2, x, hx, hxk⟩
  · refine ⟨setBlock w b (.map es clock), ?_, ⟨_, _, setBlock_at _ hlt, ?_, hbn, hnd, ?_⟩, setBlock_one _ _ _⟩
    · simp [Builtin.delete_, run_underlying ht, MapKept.run_getObj_map hb, E.keyed.check w _ hl, h1, MapKept.run_setObj_map _ hb, Result.andThen, setBlock]
    · rw [filter_new h2]; exact hes
    · rw [filter_new h2]; exact hn
  · have hjl : j < es.toList.length := (List.getElem?_eq_some_iff.1 hx).1
    have hsub : (es.eraseIdxIfInBounds j).toList = es.toList.eraseIdx j := by
      unfold Array.eraseIdxIfInBounds
      rw [dif_pos (by simpa using hjl)]
      simp
    refine ⟨setBlock w b (.map (es.eraseIdxIfInBounds j) clock), ?_, ⟨_, _, setBlock_at _ hlt, ?_, ?_, ?_, ?_⟩, setBlock_one _ _ _⟩
    · simp [Builtin.delete_, run_underlying ht, MapKept.run_getObj_map hb, E.keyed.check w _ hl, h1, MapKept.run_setObj_map _ hb, Result.andThen, setBlock]
    · rw [hsub, map_eraseIdx, hes, filter_set hn h2, map_eraseIdx]
    · intro y hy
      rw [hsub] at hy
      exact hbn y ((List.eraseIdx_sublist _ _).subset hy)
    · rw [hsub, map_eraseIdx]
      exact hnd.sublist (List.eraseIdx_sublist _ _)
    · exact hn.sublist (List.Sublist.map _ List.filter_sublist)
/-! ### for a, v := range m -/
omit [DecidableEq α] in
theorem inj_nodup {γ δ : Type} (f : γ → δ) : ∀ {l : List γ}, (l.map f).Nodup → ∀ {x y : γ}, x ∈ l → y ∈ l → f x = f y → x = y
  | [], _, _, _, h, _, _ => by simp at h
  | z :: l, hn, x, y, hx, hy, he => by
    rw [List.map_cons, List.nodup_cons] at hn
    rcases List.mem_cons.1 hx with h1 | h1 <;> rcases List.mem_cons.1 hy with h2 | h2
    · rw [h1, h2]
    · exact absurd (by rw [← h1, he]; exact List.mem_map_of_mem h2) hn.1
    · exact absurd (by rw [← h2, ← he]; exact List.mem_map_of_mem h1) hn.1
    · exact inj_nodup f hn.2 h1 h2 he
omit [DecidableEq α] in
theorem filter_sync (p : MapEntry → Bool) (q : α × β → Bool) : ∀ (l : List MapEntry) (L : List (α × β)), l.map (fun e => (e.key, e.val)) = L.map (fun d => (encK d.1, encV d.2)) → (∀ y ∈ l, ∀ d, y.key = encK d.1 → p y = q d) →
    (l.filter p).map (fun e => (e.key, e.val)) = (L.filter q).map (fun d => (encK d.1, encV d.2))
  | [], [], _, _ => rfl
  | [], _ :: _, h, _ => by simp at h
  | _ :: _, [], h, _ => by simp at h
  | y :: l, d :: L, h, hpq => by
    rw [List.map_cons, List.map_cons, List.cons.injEq] at h
    have ih := filter_sync p q l L h.2 fun y hy => hpq y (by simp [hy])
    have hk : y.key = encK d.1 := congrArg Prod.fst h.1
    rw [List.filter_cons, List.filter_cons, hpq y (by simp) d hk]
    split
    · rw [List.map_cons, List.map_cons, ih, h.1]
    · exact ih
/-- The iterator in block it, over the map in block b with the entries D; Left are those not yet handed out. -/
def RangeIs (encK : α → Value) (encV : β → Value) (w : World) (it b : Nat) (D Left : List (α × β)) : Prop :=
  ∃ es clock seen since last, w.heap[b]? = some (.map es clock) ∧ w.heap[it]? = some (.mapIter (some b) since seen last) ∧ es.toList.map (fun e => (e.key, e.val)) = D.map (fun d => (encK d.1, encV d.2)) ∧
    (∀ e ∈ es.toList, e.born < since) ∧ since ≤ last ∧ since ≤ clock ∧ (es.toList.map (·.born)).Nodup ∧ (D.map Prod.fst).Nodup ∧
    (leftOf es seen).toList.map (fun e => (e.key, e.val)) = Left.map (fun d => (encK d.1, encV d.2))
variable {it : Nat} {Left : List (α × β)}
omit [DecidableEq α] in
theorem RangeIs.map (h : RangeIs encK encV w it b D Left) : MapIs encK encV w b D := by
  obtain ⟨es, clock, seen, since, last, h1, _, h2, h3, _, h4, h5, h6, _⟩ := h
  exact ⟨es, clock, h1, h2, fun e he => Nat.lt_of_lt_of_le (h3 e he) h4, h5, h6⟩
omit [DecidableEq α] in
theorem RangeIs.block {w' : World} (h : RangeIs encK encV w it b D Left) (hb : w'.heap[b]? = w.heap[b]?) (hi : w'.heap[it]? = w.heap[it]?) : RangeIs encK encV w' it b D Left := by
  obtain ⟨es, clock, seen, since, last, h1, h2, h3⟩ := h
  exact ⟨es, clock, seen, since, last, hb.trans h1, hi.trans h2, h3⟩
omit [DecidableEq α] in
theorem RangeIs.lt (h : RangeIs encK encV w it b D Left) : b < w.heap.size ∧ it < w.heap.size ∧ it ≠ b := by
  obtain ⟨es, clock, seen, since, last, h1, h2, _⟩ := h
  refine ⟨(Array.getElem?_eq_some_iff.1 h1).1, (Array.getElem?_eq_some_iff.1 h2).1, fun e => ?_⟩
  rw [e, h1] at h2
  cases h2
omit [DecidableEq α] in
/-- range m -/
theorem MapIs.range (ht : P.underlying t = some (.map k e)) (h : MapIs encK encV w b D) :
    ∃ w', (Instr.range t (.map (some b))).run P w = .ok (.pointer (some ⟨w.heap.size, 0, none⟩)) w' ∧ RangeIs encK encV w' w.heap.size b D D ∧ Fr w.heap.size [] w w' := by
  have hlt := h.lt
  obtain ⟨es, clock, hb, hes, hbn, hnd, hn⟩ := h
  refine ⟨_, run_range_map w t k e b es clock ht hb, ⟨es, clock, #[], clock, clock, ?_, heap_alloc_new w _, hes, hbn, Nat.le_refl _, Nat.le_refl _, hnd, hn, ?_⟩, (Fr.refl _ _ _).alloc (Nat.le_refl _) _⟩
  · rw [heap_alloc_old w _ hlt, hb]
  · have : leftOf es #[] = es := by unfold leftOf; simp
    rw [this]
    exact hes
omit [DecidableEq α] in
theorem sync_of (E : KeyEnc P k encK ok) {es : List MapEntry} (hes : es.map (fun e => (e.key, e.val)) = D.map (fun d => (encK d.1, encV d.2))) (hnd : (es.map (·.born)).Nodup) (hn : (D.map Prod.fst).Nodup)
    {x : MapEntry} (hx : x ∈ es) {a : α} (hxk : x.key = encK a) {y : MapEntry} (hy : y ∈ es) {d : α × β} (hyk : y.key = encK d.1) : y.born ≠ x.born ↔ d.1 ≠ a := by
  constructor
  · intro h he
    refine h ?_
    obtain ⟨i, hi⟩ := List.getElem?_of_mem hx
    obtain ⟨j, hj⟩ := List.getElem?_of_mem hy
    obtain ⟨dx, h1, h2, _⟩ := entry_of hes i x hi
    obtain ⟨dy, h3, h4, _⟩ := entry_of hes j y hj
    have e1 : dx.1 = a := E.inj _ _ (h2.symm.trans hxk)
    have e2 : dy.1 = a := (E.inj _ _ (h4.symm.trans hyk)).trans he
    have := nodup_at hn h1 h3 e1 e2
    rw [this, hj] at hi
    cases hi
    rfl
  · intro h he
    have := inj_nodup (·.born) hnd hy hx he
    rw [this, hxk] at hyk
    exact h (E.inj _ _ hyk).symm
/-- next -/
theorem RangeIs.next (E : KeyEnc P k encK ok) (h : RangeIs encK encV w it b D Left) (ty : TypeId) :
    (Left = [] ∧ (Instr.next (.pointer (some ⟨it, 0, none⟩)) false ty).run P w = .ok (.tuple #[.bool false]) w) ∨
    ∃ d ∈ Left, ∃ w', (Instr.next (.pointer (some ⟨it, 0, none⟩)) false ty).run P w = .ok (.tuple #[.bool true, encK d.1, encV d.2]) w' ∧ RangeIs encK encV w' it b D (Left.filter (fun z => decide (z.1 ≠ d.1))) ∧ One it w w' ∧
      (Instr.entry (.pointer (some ⟨it, 0, none⟩))).run P w' = .ok (.tuple #[encK d.1, encV d.2]) w' := by
  obtain ⟨hblt, hilt, hne⟩ := h.lt
  obtain ⟨es, clock, seen, since, last, hb, hit, hes, hold, hsl, hsc, hnd, hn, hleft⟩ := h
  rcases run_next_at (P := P) w ty it b since last seen es clock hit hb hold hsl with ⟨h0, hrun⟩ | ⟨x, hx, w1, hw1, hrun⟩
  · refine .inl ⟨?_, hrun⟩
    have : (leftOf es seen).toList = [] := List.eq_nil_of_length_eq_zero (by simpa using h0)
    rw [this] at hleft
    cases Left with
    | nil => rfl
    | cons _ _ => simp at hleft
  · refine .inr ?_
    have hxe : x ∈ es.toList := by unfold leftOf at hx; simp at hx ⊢; exact hx.1
    obtain ⟨i, hi⟩ := List.getElem?_of_mem hx
    obtain ⟨d, hd, hk, hv⟩ := entry_of hleft i x hi
    have hone : One it w (setBlock w1 it (.mapIter (some b) since (seen.push x.born) clock)) := by
      have := setBlock_one w1 it (.mapIter (some b) since (seen.push x.born) clock)
      rcases hw1 with rfl | rfl
      · exact this
      · exact ⟨this.os, this.tape, this.output, this.size, this.block⟩
    have hb1 : (setBlock w1 it (.mapIter (some b) since (seen.push x.born) clock)).heap[b]? = some (.map es clock) := (hone.block b (Ne.symm hne)).trans hb
    have hi1 : (setBlock w1 it (.mapIter (some b) since (seen.push x.born) clock)).heap[it]? = some (.mapIter (some b) since (seen.push x.born) clock) := setBlock_at _ (by rcases hw1 with rfl | rfl <;> exact hilt)
    refine ⟨d, List.mem_of_getElem? hd, _, by rw [hrun, hk, hv], ⟨es, clock, seen.push x.born, since, clock, hb1, hi1, hes, hold, hsc, hsc, hnd, hn, ?_⟩, hone, ?_⟩
    · have : (leftOf es (seen.push x.born)).toList = (leftOf es seen).toList.filter (fun y => decide (y.born ≠ x.born)) := by
        unfold leftOf
        rw [Array.toList_filter, Array.toList_filter, List.filter_filter]
        congr 1
        funext y
        simp [Bool.and_comm]
      rw [this]
      refine filter_sync _ _ _ _ hleft fun y hy z hz => ?_
      have hye : y ∈ es.toList := by unfold leftOf at hy; simp at hy ⊢; exact hy.1
      exact decide_eq_decide.2 (sync_of E hes hnd hn hxe hk hye hz)
    · rw [run_entry_at _ it b since seen es clock x hi1 hb1 hxe hnd, hk, hv]
/-- delete(m, a) in the round -/
theorem RangeIs.del (E : KeyEnc P k encK ok) (ht : P.underlying t = some (.map k e)) (h : RangeIs encK encV w it b D Left) (hD : ∀ d ∈ D, ok d.1) {a : α} (ha : ok a) (ty : TypeId) :
    ∃ w', (Builtin.delete_ #[t, k] ty #[.map (some b), encK a]).run P w = .ok (.tuple #[]) w' ∧ RangeIs encK encV w' it b (D.filter (fun d => decide (d.1 ≠ a))) (Left.filter (fun d => decide (d.1 ≠ a))) ∧ One b w w' := by
  obtain ⟨hblt, hilt, hne⟩ := h.lt
  obtain ⟨es, clock, seen, since, last, hb, hit, hes, hold, hsl, hsc, hnd, hn, hleft⟩ := h
  obtain ⟨l, hl⟩ := E.key a ha
  rcases find_is E hD hes w ha with ⟨h1, h2⟩ | ⟨j, v0, h1, h2, x, hx, hxk⟩
  · have hL : ∀ d ∈ Left, d.1 ≠ a := fun d hd he => by
      obtain ⟨y, hy, hyk, _⟩ := entry_to hleft d hd
      have hye : y ∈ es.toList := by unfold leftOf at hy; simp at hy ⊢; exact hy.1
      obtain ⟨i, hi⟩ := List.getElem?_of_mem hye
      obtain ⟨d', hd', hk', _⟩ := entry_of hes i y hi
      exact h2 d' (List.mem_of_getElem? hd') ((E.inj _ _ (hk'.symm.trans hyk)).trans he)
    refine ⟨setBlock w b (.map es clock), ?_, ⟨es, clock, seen, since, last, setBlock_at _ hblt, ((setBlock_one w b _).block it hne).trans hit, ?_, hold, hsl, hsc, hnd, ?_, ?_⟩, setBlock_one _ _ _⟩
    · simp [Builtin.delete_, run_underlying ht, MapKept.run_getObj_map hb, E.keyed.check w _ hl, h1, MapKept.run_setObj_map _ hb, Result.andThen, setBlock]
    · rw [filter_new h2]; exact hes
    · rw [filter_new h2]; exact hn
    · rw [filter_new hL]; exact hleft
  · have hjl : j < es.toList.length := (List.getElem?_eq_some_iff.1 hx).1
    have hxe := List.mem_of_getElem? hx
    have hsub : (es.eraseIdxIfInBounds j).toList = es.toList.filter (fun y => decide (y.born ≠ x.born)) := by
      unfold Array.eraseIdxIfInBounds
      rw [dif_pos (by simpa using hjl)]
      simp only [Array.toList_eraseIdx]
      have := filter_eq_eraseIdx (fun y : MapEntry => decide (y.born = x.born)) es.toList j x hx (by simp) ?_
      · rw [← this]
        congr 1
        funext y
        simp
      · rw [List.pairwise_iff_getElem]
        intro i i' hi hi' hlt ⟨h3, h4⟩
        have hp := List.pairwise_iff_getElem.1 hnd i i' (by simpa using hi) (by simpa using hi') hlt
        rw [List.getElem_map, List.getElem_map] at hp
        exact hp ((by simpa using h3 : _ = x.born).trans (by simpa using h4 : _ = x.born).symm)
    refine ⟨setBlock w b (.map (es.eraseIdxIfInBounds j) clock), ?_, ⟨_, clock, seen, since, last, setBlock_at _ hblt, ((setBlock_one w b _).block it hne).trans hit, ?_, ?_, hsl, hsc, ?_, ?_, ?_⟩, setBlock_one _ _ _⟩
    · simp [Builtin.delete_, run_underlying ht, MapKept.run_getObj_map hb, E.keyed.check w _ hl, h1, MapKept.run_setObj_map _ hb, Result.andThen, setBlock]
    · rw [hsub]
      exact filter_sync _ _ _ _ hes fun y hy z hz => decide_eq_decide.2 (sync_of E hes hnd hn hxe hxk hy hz)
    · intro y hy
      rw [hsub] at hy
      exact hold y (List.mem_filter.1 hy).1
    · rw [hsub]
      exact hnd.sublist (List.Sublist.map _ List.filter_sublist)
    · exact hn.sublist (List.Sublist.map _ List.filter_sublist)
    · have : (leftOf (es.eraseIdxIfInBounds j) seen).toList = (leftOf es seen).toList.filter (fun y => decide (y.born ≠ x.born)) := by
        unfold leftOf
        rw [Array.toList_filter, hsub, Array.toList_filter, List.filter_filter, List.filter_filter]
        congr 1
        funext y
        exact Bool.and_comm _ _
      rw [this]
      refine filter_sync _ _ _ _ hleft fun y hy z hz => ?_
      have hye : y ∈ es.toList := by unfold leftOf at hy; simp at hy ⊢; exact hy.1
      exact decide_eq_decide.2 (sync_of E hes hnd hn hxe hxk hye hz)
end
end Go.Proofs.Ytcfbbembggnanaa
