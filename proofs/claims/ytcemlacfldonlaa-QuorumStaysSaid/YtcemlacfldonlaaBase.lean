/- Small words for memory: a block that is known whole, and a frame: only listed blocks below a bound may have turned. -/
import Derived.WalkKit
import Derived.KernelRfl
import Derived.RowKit3
import Derived.Deep.Draws
import Derived.Laws.OwnMore
import Derived.Laws.Rows
import Derived.StillTailTactics
import Derived.Deep.QuietTactic
import Derived.Deep.MidRow
import Derived.Maps.AppendAt
import Derived.Laws.BytesArg
namespace Go.Proofs.Ytcemlacfldonlaa
open Go.RowKit

/-- Block g holds just these cells; none is frozen. -/
def Has (w : World) (g : Nat) (t : TypeId) (cs : List Value) : Prop := w.heap[g]? = some (.cells cs.toArray t (0, 0))

/-- Below block number B only the blocks of S may have turned. -/
structure Fr (B : Nat) (S : List Nat) (w w' : World) : Prop where
  os : w'.os = w.os
  tape : w'.tape = w.tape
  output : w'.output = w.output
  size : w.heap.size ≤ w'.heap.size
  block : ∀ k, k < B → k ∉ S → w'.heap[k]? = w.heap[k]?

section
variable {w w' w1 a : World} {g B B' : Nat} {t : TypeId} {cs : List Value} {S S' : List Nat}

theorem Has.lt (h : Has w g t cs) : g < w.heap.size := by
  rcases Nat.lt_or_ge g w.heap.size with hlt | hge
  · exact hlt
  · unfold Has at h; rw [Array.getElem?_eq_none hge] at h; cases h
theorem Has.cell (h : Has w g t cs) (i : Nat) : w.cell? ⟨g, i, none⟩ = cs[i]? := by
  unfold Has at h
  simp [World.cell?, h]
theorem Has.cellD (h : Has w g t cs) (i : Nat) (hi : i < cs.length) (d : Value) : w.cell? ⟨g, i, none⟩ = some (cs.getD i d) := by
  rw [h.cell, List.getD_eq_getElem?_getD, List.getElem?_eq_getElem hi]; rfl
theorem Has.frozen (h : Has w g t cs) (i : Nat) : w.frozen? ⟨g, i, none⟩ = false := by
  unfold Has at h
  simp [World.frozen?, h]
theorem Has.new (w : World) (t : TypeId) (cs : List Value) : Has (w.alloc (.cells cs.toArray t)) w.heap.size t cs := heap_alloc_new w _
theorem Has.new' (w : World) (t : TypeId) (cs : List Value) {g : Nat} (hg : g = w.heap.size) : Has (w.alloc (.cells cs.toArray t)) g t cs := hg ▸ heap_alloc_new w _
theorem Has.drew (h : Has w g t cs) : Has w.drew g t cs := h
theorem Has.drewN (h : Has w g t cs) (n : Nat) : Has (w.drewN n) g t cs := h
theorem Has.alloc (h : Has w g t cs) (o : Obj) : Has (w.alloc o) g t cs := (Below.heap_alloc w o g h.lt).trans h
theorem Has.set (h : Has w g t cs) (i : Nat) (u : Value) : Has (w.setCell ⟨g, i, none⟩ u) g t (cs.set i u) := by
  unfold Has at h ⊢
  simp [World.setCell, Array.getElem?_modify, h]
theorem Has.far (h : Has w g t cs) {p : Addr} (hp : g ≠ p.block) (u : Value) : Has (w.setCell p u) g t cs := (Below.heap_setCell w p u g hp).trans h
theorem Has.fr (h : Has w g t cs) (hf : Fr B S w w') (hg : g < B) (hs : g ∉ S) : Has w' g t cs := (hf.block g hg hs).trans h
theorem Has.val {p : Addr} {k : IntKind} {x y : Int} (h : Has (w.setCell p (.int k x)) g t cs) (e : x = y) : Has (w.setCell p (.int k y)) g t cs := e ▸ h
theorem Has.val2 {p q : Addr} {k : IntKind} {x y x' y' : Int} (h : Has ((w.setCell p (.int k x)).setCell q (.int k y)) g t cs) (e : x = x') (f : y = y') : Has ((w.setCell p (.int k x')).setCell q (.int k y')) g t cs := e ▸ f ▸ h
theorem Has.ne {g' : Nat} {t' : TypeId} {cs' : List Value} (h : Has w g t cs) (h' : Has w g' t' cs') (hne : t ≠ t') : g ≠ g' := by
  rintro rfl
  unfold Has at h h'
  rw [h] at h'
  injection h' with h'
  injection h' with _ ht
  exact hne ht

theorem Fr.refl (B : Nat) (S : List Nat) (w : World) : Fr B S w w := ⟨rfl, rfl, rfl, Nat.le_refl _, fun _ _ _ => rfl⟩
theorem Fr.trans (h : Fr B S a w) (k : Fr B S w w') : Fr B S a w' :=
  ⟨k.os.trans h.os, k.tape.trans h.tape, k.output.trans h.output, Nat.le_trans h.size k.size, fun i hi hs => (k.block i hi hs).trans (h.block i hi hs)⟩
theorem Fr.mono (h : Fr B S a w) (hB : B' ≤ B) (hS : ∀ k, k ∈ S → k < B' → k ∈ S') : Fr B' S' a w :=
  ⟨h.os, h.tape, h.output, h.size, fun k hk hs => h.block k (Nat.lt_of_lt_of_le hk hB) fun hks => hs (hS k hks hk)⟩
theorem Fr.drew (h : Fr B S a w) : Fr B S a w.drew := ⟨h.os, h.tape, h.output, h.size, h.block⟩
theorem Fr.drewN (h : Fr B S a w) (n : Nat) : Fr B S a (w.drewN n) := ⟨h.os, h.tape, h.output, h.size, h.block⟩
theorem Fr.alloc (h : Fr B S a w) (hB : B ≤ w.heap.size) (o : Obj) : Fr B S a (w.alloc o) :=
  h.trans ⟨rfl, rfl, rfl, by simp, fun k hk _ => Below.heap_alloc _ _ _ (by omega)⟩
theorem Fr.setCell (h : Fr B S a w) {p : Addr} (hp : p.block ∈ S ∨ B ≤ p.block) (u : Value) : Fr B S a (w.setCell p u) :=
  h.trans ⟨rfl, rfl, rfl, by simp [World.setCell], fun k hk hs => Below.heap_setCell _ _ _ _ (by
    rintro rfl
    rcases hp with hp | hp
    · exact hs hp
    · omega)⟩
theorem Fr.below (h : Fr B S a w) (hb : Below B' w w') (hB : B ≤ B') : Fr B S a w' :=
  h.trans ⟨hb.os, hb.tape, hb.output, hb.size, fun k hk _ => hb.block k (by omega)⟩
theorem Fr.grown (h : Fr B S a w) {row : Option Nat} (hg : w.grownBy w' row) (hB : B ≤ w.heap.size) (hr : ∀ k, row = some k → k ∈ S ∨ B ≤ k) : Fr B S a w' :=
  h.trans ⟨hg.os, hg.tape, hg.output, hg.size, fun k hk hs => hg.block k (by omega) (fun e => by
    rcases hr k e.symm with h1 | h1
    · exact hs h1
    · omega)⟩
theorem Fr.of_below (hb : Below B w w') (S : List Nat) : Fr B S w w' := ⟨hb.os, hb.tape, hb.output, hb.size, fun k hk _ => hb.block k hk⟩
theorem Fr.to_below (h : Fr B [] w w') : Below B w w' := ⟨h.os, h.tape, h.output, h.size, fun k hk => h.block k hk (by simp)⟩
theorem Fr.cell (h : Fr B S w w') {p : Addr} (hp : p.block < B) (hs : p.block ∉ S) : w'.cell? p = w.cell? p := World.cell?_of_block (w := w) (h.block p.block hp hs)
theorem Fr.frozen (h : Fr B S w w') {p : Addr} (hp : p.block < B) (hs : p.block ∉ S) : w'.frozen? p = w.frozen? p := World.frozen?_of_block (w := w) (h.block p.block hp hs)
end
/-- The world under another name. -/
theorem wp_world {P : Program} {c : Code} {Q : Exit → Act → World → Prop} {a : Act} {W W' : World} (h : W = W') (k : c.wp P Q a W') : c.wp P Q a W := h ▸ k
theorem wpList_world {P : Program} {ops : Array Oper} {l : List Oper} {Q : Exit → Act → World → Prop} {a : Act} {W W' : World} (h : W = W') (k : wpList P ops Q l a W') : wpList P ops Q l a W := h ▸ k
/-- Block g alone has turned. -/
structure One (g : Nat) (w w' : World) : Prop where
  os : w'.os = w.os
  tape : w'.tape = w.tape
  output : w'.output = w.output
  size : w'.heap.size = w.heap.size
  block : ∀ k, k ≠ g → w'.heap[k]? = w.heap[k]?
theorem One.refl (g : Nat) (w : World) : One g w w := ⟨rfl, rfl, rfl, rfl, fun _ _ => rfl⟩
theorem One.setCell {g : Nat} {a w : World} (h : One g a w) (o : Nat) (u : Value) : One g a (w.setCell ⟨g, o, none⟩ u) :=
  ⟨h.os, h.tape, h.output, by simpa [World.setCell] using h.size, fun k hk => (Below.heap_setCell _ _ _ _ hk).trans (h.block k hk)⟩
theorem One.trans {g : Nat} {a b c : World} (h : One g a b) (k : One g b c) : One g a c :=
  ⟨k.os.trans h.os, k.tape.trans h.tape, k.output.trans h.output, k.size.trans h.size, fun i hi => (k.block i hi).trans (h.block i hi)⟩
theorem Fr.one {B g : Nat} {S : List Nat} {a w w' : World} (h : Fr B S a w) (o : One g w w') (hg : g ∈ S ∨ B ≤ g) : Fr B S a w' :=
  h.trans ⟨o.os, o.tape, o.output, by rw [o.size]; exact Nat.le_refl _, fun k hk hs => o.block k (by
    rintro rfl
    rcases hg with hg | hg
    · exact hs hg
    · omega)⟩
theorem Has.one {w w' : World} {g g' : Nat} {t : TypeId} {cs : List Value} (h : Has w g t cs) (o : One g' w w') (hne : g ≠ g') : Has w' g t cs := (o.block g hne).trans h
theorem Has.range {w : World} {g : Nat} {t : TypeId} {cs : List Value} (h : Has w g t cs) (o n : Nat) : w.rangeAt g o ((cs.drop o).take n) := fun j v hv => by
  rw [h.cell]
  rw [List.getElem?_take] at hv
  split at hv
  · rwa [List.getElem?_drop] at hv
  · cases hv
theorem Has.there {w : World} {g : Nat} {t : TypeId} {cs : List Value} (h : Has w g t cs) (o n : Nat) (hfit : o + n ≤ cs.length) : w.there g o n := fun j hj =>
  ⟨by rw [h.cell, List.getElem?_eq_getElem (by omega)]; rfl, h.frozen _⟩
theorem setCells_has {g : Nat} {t : TypeId} : ∀ (vs : List Value) (o : Nat) (w : World) (cs : List Value), Has w g t cs → o + vs.length ≤ cs.length →
    Has (w.setCells g o vs) g t (cs.take o ++ vs ++ cs.drop (o + vs.length)) ∧ One g w (w.setCells g o vs)
  | [], o, w, cs, h, _ => ⟨by simpa [World.setCells] using h, One.refl _ _⟩
  | v :: r, o, w, cs, h, hf => by
    simp only [List.length_cons] at hf
    obtain ⟨h1, h2⟩ := setCells_has r (o + 1) (w.setCell ⟨g, o, none⟩ v) (cs.set o v) (h.set o v) (by rw [List.length_set]; omega)
    refine ⟨?_, ((One.refl g w).setCell o v).trans h2⟩
    have e : (cs.set o v).take (o + 1) ++ r ++ (cs.set o v).drop (o + 1 + r.length) = cs.take o ++ v :: r ++ cs.drop (o + (v :: r).length) := by
      rw [List.take_succ_eq_append_getElem (by rw [List.length_set]; omega), List.take_set_of_le (Nat.le_refl o), List.getElem_set_self, List.drop_set_of_lt (by omega), List.length_cons, List.append_assoc, List.append_assoc]
      simp only [List.nil_append, List.append_assoc, List.cons_append, show o + 1 + r.length = o + (r.length + 1) by omega]
    rw [← e]
    exact h1
/-- A whole array or struct stored into a block that is known whole. -/
theorem wp_store_has {P : Program} {op : Oper} {a : Act} {w : World} {K : Act → World → Prop} {Q : Exit → Act → World → Prop} (ty : TypeId) (x y : Operand) (ho : op.op = .store ty x y)
    (g o : Nat) (t : TypeId) (cs vs : List Value) (hx : a.eval x = .pointer (some ⟨g, o, none⟩)) (hy : a.eval y = .agg vs.toArray) (H : Has w g t cs) (hfit : o + vs.length ≤ cs.length)
    (hi : (P.info? ty).map (·.size) = some vs.length) (h1 : ∀ v ∈ vs, v.oneCell' = true)
    (h : ∀ w', Has w' g t (cs.take o ++ vs ++ cs.drop (o + vs.length)) → One g w w' → K (a.put op.dst undef) w') : op.wp P a w K Q := by
  obtain ⟨h2, h3⟩ := setCells_has vs o w cs H hfit
  exact wp_store_mid ty x y ho g o vs.toArray hx hy (H.there o _ (by simpa using hfit)) (by simpa using hi) (all_oneCell_toArray h1) (by simpa using h _ h2 h3)
theorem wpList_store_has {P : Program} {ops : Array Oper} {rest : List Oper} {op : Oper} {a : Act} {w : World} {Q : Exit → Act → World → Prop} (hgd : op.guard = none) (ty : TypeId) (x y : Operand) (ho : op.op = .store ty x y)
    (g o : Nat) (t : TypeId) (cs vs : List Value) (hx : a.eval x = .pointer (some ⟨g, o, none⟩)) (hy : a.eval y = .agg vs.toArray) (H : Has w g t cs) (hfit : o + vs.length ≤ cs.length)
    (hi : (P.info? ty).map (·.size) = some vs.length) (h1 : ∀ v ∈ vs, v.oneCell' = true)
    (h : ∀ w', Has w' g t (cs.take o ++ vs ++ cs.drop (o + vs.length)) → One g w w' → wpList P ops Q rest (a.put op.dst undef) w') : wpList P ops Q (op :: rest) a w :=
  wpList_plain hgd fun _ hK => wp_store_has ty x y ho g o t cs vs hx hy H hfit hi h1 fun w' h2 h3 => hK _ _ (h w' h2 h3)
/-- The same, the block's whole content. -/
theorem wpList_store_all {P : Program} {ops : Array Oper} {rest : List Oper} {op : Oper} {a : Act} {w : World} {Q : Exit → Act → World → Prop} (hgd : op.guard = none) (ty : TypeId) (x y : Operand) (ho : op.op = .store ty x y)
    (g : Nat) (t : TypeId) (cs vs : List Value) (hx : a.eval x = .pointer (some ⟨g, 0, none⟩)) (hy : a.eval y = .agg vs.toArray) (H : Has w g t cs) (hlen : vs.length = cs.length)
    (hi : (P.info? ty).map (·.size) = some vs.length) (h1 : ∀ v ∈ vs, v.oneCell' = true)
    (h : ∀ w', Has w' g t vs → One g w w' → wpList P ops Q rest (a.put op.dst undef) w') : wpList P ops Q (op :: rest) a w :=
  wpList_store_has hgd ty x y ho g 0 t cs vs hx hy H (by omega) hi h1 fun w' h2 h3 => h w' (by
    rw [List.take_zero, List.nil_append, List.drop_eq_nil_of_le (by omega), List.append_nil] at h2; exact h2) h3
theorem Fr.new {B : Nat} {S : List Nat} {a w w' : World} {o : Obj} (h : Fr B S a w) (hB : B ≤ w.heap.size) (h1 : One w.heap.size (w.alloc o) w') : Fr B S a w' :=
  (h.alloc hB o).one h1 (Or.inr hB)
theorem Has.news {w w' : World} {g : Nat} {t : TypeId} {cs : List Value} {o : Obj} (h : Has w g t cs) (h1 : One w.heap.size (w.alloc o) w') : Has w' g t cs :=
  (h.alloc o).one h1 (Nat.ne_of_lt h.lt)
/-- append of a block that is known whole onto a row of the call's own. -/
theorem wp_append_has {P : Program} {o : Oper} {a : Act} {w : World} {K : Act → World → Prop} {Q : Exit → Act → World → Prop} (s x : Operand) (t : TypeId)
    (ho : o.op = .call { callee := .builtin .append, args := #[s, x], argTypes := #[t, t] })
    (base : Nat) (e : TypeId) (i : TypeInfo) (z : Value) (size bytes : Nat) (ht : P.underlying t = some (.slice e)) (hi : P.info? e = some i) (hz : i.zero = some z)
    (hsize : i.size = size) (hby : i.bytes = bytes) (hzs : z.cells.size = size) (hsz : 0 < size)
    (v : Value) (n : Nat) (xs : List Value) (hs : a.eval s = v) (hown : w.ownsRow base e size v n xs)
    (g m : Nat) (news : List Value) (hx : a.eval x = .slice (some ⟨g, 0, none⟩) m m) (hg : Has w g e news) (hl : news.length = m * size) (h1 : ∀ u ∈ news, u.oneCell' = true)
    (h63 : n + m ≤ maxLen) (hbytes : (n + m) * bytes ≤ 140737488355328) (hbase : base ≤ w.heap.size)
    (h : ∀ v' w', w'.ownsRow base e size v' (n + m) (xs ++ news) → w.grownBy w' v.ownBlock → (v'.ownBlock = v.ownBlock ∨ v'.ownBlock = some w.heap.size) → K (a.put o.dst v') w') : o.wp P a w K Q := by
  obtain ⟨v', w', hrun, h2, h3, _, h5⟩ := run_append_own_at (P := P) w base t o.type e i z size bytes ht hi hz hsize hby hzs hsz v n xs hown ⟨g, 0, none⟩ m m news hl
    (fun j u hu => by rw [Addr.add_mid, Nat.zero_add, hg.cell]; exact hu) h1 h63 hbytes hbase
  unfold Oper.wp execOp
  simp only [ho, resolve, invoke, builtin, Sem.run_bind, Sem.run_pure, Result.andThen_ok, List.map_toArray, List.map_cons, List.map_nil, hs, hx, hrun]
  exact h v' w' h2 h3 h5
theorem step_append_has {P : Program} {ops : Array Oper} {o : Oper} {a : Act} {w : World} {K : Act → World → Prop} {Q : Exit → Act → World → Prop} {E : Prop} (hgd : o.guard = none) (s x : Operand) (t : TypeId)
    (ho : o.op = .call { callee := .builtin .append, args := #[s, x], argTypes := #[t, t] })
    (base : Nat) (e : TypeId) (i : TypeInfo) (z : Value) (size bytes : Nat) (ht : P.underlying t = some (.slice e)) (hi : P.info? e = some i) (hz : i.zero = some z)
    (hsize : i.size = size) (hby : i.bytes = bytes) (hzs : z.cells.size = size) (hsz : 0 < size)
    (v : Value) (n : Nat) (xs : List Value) (hs : a.eval s = v) (hown : w.ownsRow base e size v n xs)
    (g m : Nat) (news : List Value) (hx : a.eval x = .slice (some ⟨g, 0, none⟩) m m) (hg : Has w g e news) (hl : news.length = m * size) (h1 : ∀ u ∈ news, u.oneCell' = true)
    (h63 : n + m ≤ maxLen) (hbytes : (n + m) * bytes ≤ 140737488355328) (hbase : base ≤ w.heap.size)
    (h : ∀ v' w', w'.ownsRow base e size v' (n + m) (xs ++ news) → w.grownBy w' v.ownBlock → (v'.ownBlock = v.ownBlock ∨ v'.ownBlock = some w.heap.size) → K (a.put o.dst v') w') :
    if Region.wanted o (yielded ops a.tmps) = true then Oper.wp P o a w K Q else E := by
  have hw : Region.wanted o (yielded ops a.tmps) = true := by simp [Region.wanted, hgd]
  rw [if_pos hw]
  exact wp_append_has s x t ho base e i z size bytes ht hi hz hsize hby hzs hsz v n xs hs hown g m news hx hg hl h1 h63 hbytes hbase h
theorem wpList_append_has {P : Program} {ops : Array Oper} {rest : List Oper} {o : Oper} {a : Act} {w : World} {Q : Exit → Act → World → Prop} (hgd : o.guard = none) (s x : Operand) (t : TypeId)
    (ho : o.op = .call { callee := .builtin .append, args := #[s, x], argTypes := #[t, t] })
    (base : Nat) (e : TypeId) (i : TypeInfo) (z : Value) (size bytes : Nat) (ht : P.underlying t = some (.slice e)) (hi : P.info? e = some i) (hz : i.zero = some z)
    (hsize : i.size = size) (hby : i.bytes = bytes) (hzs : z.cells.size = size) (hsz : 0 < size)
    (v : Value) (n : Nat) (xs : List Value) (hs : a.eval s = v) (hown : w.ownsRow base e size v n xs)
    (g m : Nat) (news : List Value) (hx : a.eval x = .slice (some ⟨g, 0, none⟩) m m) (hg : Has w g e news) (hl : news.length = m * size) (h1 : ∀ u ∈ news, u.oneCell' = true)
    (h63 : n + m ≤ maxLen) (hbytes : (n + m) * bytes ≤ 140737488355328) (hbase : base ≤ w.heap.size)
    (h : ∀ v' w', w'.ownsRow base e size v' (n + m) (xs ++ news) → w.grownBy w' v.ownBlock → (v'.ownBlock = v.ownBlock ∨ v'.ownBlock = some w.heap.size) → wpList P ops Q rest (a.put o.dst v') w') : wpList P ops Q (o :: rest) a w :=
  wpList_plain hgd fun _ hK => wp_append_has s x t ho base e i z size bytes ht hi hz hsize hby hzs hsz v n xs hs hown g m news hx hg hl h1 h63 hbytes hbase fun v' w' h2 h3 h4 => hK _ _ (h v' w' h2 h3 h4)
/-- string(b), b a row of bytes of the call's own. -/
theorem run_string_own {P : Program} {w : World} {base src e dst n : Nat} {v : Value} {l : List Int} (hs : P.underlying src = some (.slice e)) (he : P.underlying e = some (.int .u8)) (hd : P.underlying dst = some .string)
    (hown : w.ownsRow base e 1 v n (l.map (Value.int .u8))) : (convert src dst v).run P w = .ok (.string (strOfNums l)) w := by
  have hn : l.length = n := by simpa using hown.1
  rcases hown.2 with ⟨rfl, hx⟩ | ⟨g, cap, cur, rfl, _, hg, _, _, _, htake⟩
  · have : l = [] := List.eq_nil_of_length_eq_zero (by omega)
    subst this
    rw [run_convert_bytes_nil w src e hs he 0 0 dst hd]
    rfl
  · refine run_convert_bytes_arg w src e hs he g 0 n cap l hn (fun i hi => ?_) dst hd
    have h := hown.cellAt i (by omega)
    rw [Nat.zero_add, h, List.getElem?_map, List.getElem?_eq_getElem (by omega), List.getD_eq_getElem?_getD, List.getElem?_eq_getElem (by omega)]
    rfl
/-- A region that draws its order: n operations that leave the world alone, then a tail whose order is forced; the world is a letter. -/
theorem region_still_tail {P : Program} {id : Nat} {Q : Exit → Act → World → Prop} {a : Act} {w : World} {l : List Oper} (n : Nat) (hm : P.follows .mixedOrders = true) (hB : Region.lexTailB .any l.toArray n = true)
    (h : ∀ W : World, W = w.drew → wpStill P l.toArray W (fun a' => wpList P l.toArray Q (l.drop n) a' W) (l.take n) a) : (Code.region id l.toArray true).wp P Q a w :=
  wp_region_still_tail n hm hB (h _ rfl)
theorem region_still {P : Program} {id : Nat} {Q : Exit → Act → World → Prop} {a : Act} {w : World} {l : List Oper} (hm : P.follows .mixedOrders = true) (hB : Region.lexB .any l.toArray = true)
    (h : ∀ W : World, W = w.drew → wpStill P l.toArray W (fun a' => Q .normal a' W) l a) : (Code.region id l.toArray true).wp P Q a w :=
  wp_region_still_lit hm hB (h _ rfl)
/-- A call that leaves its world alone, inside a region that only reads, behind draws. -/
theorem quiet_same {P : Program} {f : FuncId} {args : Array Value} {w : World} {a n : Nat} {v : Value} (h : ∀ W, Calls P f args W fun e w' => e = .returned v ∧ w' = W) :
    Calls P f args (w.drewN (a + n)) fun e w'' => e = .returned v ∧ ∃ m, w'' = w.drewN (a + m) :=
  (h _).mono fun _ _ ⟨he, hm⟩ => ⟨he, n, hm⟩
theorem quiet_same0 {P : Program} {f : FuncId} {args : Array Value} {w : World} {n : Nat} {v : Value} (h : ∀ W, Calls P f args W fun e w' => e = .returned v ∧ w' = W) :
    Calls P f args (w.drewN n) fun e w'' => e = .returned v ∧ ∃ m, w'' = w.drewN m :=
  (h _).mono fun _ _ ⟨he, hm⟩ => ⟨he, n, hm⟩
/-- An array's element at a place within it; the elements are of one cell. -/
theorem run_index_arr {P : Program} {t e : TypeId} {n : Nat} {i : TypeInfo} {d : TypeDesc} (cs : Array Value) (k : Nat) (v : Value) (ht : P.underlying t = some (.array n e)) (hi : P.info? e = some i) (hs : i.size = 1)
    (he : P.underlying e = some d) (hd : (match d with | .struct _ | .array _ _ => true | _ => false) = false) (hk : k < n) (hv : cs[k]? = some v) (w : World) :
    (Instr.index t (.agg cs) (.int .i64 (k : Int))).run P w = .ok v w := by
  have hagg : (isAgg e).run P w = .ok false w := by
    unfold isAgg
    rw [Sem.run_bind, run_underlying he w]
    cases d <;> simp_all
  have h0 : (0 : Int) ≤ (k : Int) ∧ (k : Int) < n := by omega
  simp [Instr.index, asIntOf, Sem.run_bind, run_underlying ht, sizeOf, typeInfo, hi, hs, part, hagg, hv, hk]
theorem ret_int {k : IntKind} {a b : Int} (h : a = b) : Ending.returned (.int k a) = .returned (.int k b) := by rw [h]
theorem ret_val {a b : Value} (h : a = b) : Ending.returned a = .returned b := by rw [h]
end Go.Proofs.Ytcemlacfldonlaa
