/- strings.Builder, alone or as the one field of a struct: it holds bytes; what writes to it and reads it. Lines of the shelf's proofs, turned to a block of another type. -/
import Derived.Test.YtaglginhaofgeaaProg
import Derived.Test.YtaglginhaofgeaaBase
import Derived.Shelf.Strings.BuilderK
import Derived.Lib.Hide
-- cut
namespace Go.Proofs.Ytaglginhaofgeaa
open Go.RowKit
/-- A type of two cells, at whose begin a Builder lies. -/
structure BT (T : TypeId) : Prop where
  ne5 : T ≠ 5
  lies : liesAt Try.prog Try.prog.depth T (2 / Try.prog.cellsOf T) 0 82 1 = true
/-- The builder in block b holds these bytes. -/
def Bld (T : TypeId) (b : Nat) (l : List UInt8) (w : World) : Prop :=
  ∃ p v, (p = .pointer none ∨ p = .pointer (some ⟨b, 0, none⟩)) ∧ w.heap[b]? = some (.cells #[p, v] T (0, 0)) ∧ w.ownsRowF b 5 1 v l.length (Lib.byteCells l) ∧ (l = [] → v = .slice none 0 0)
/-- What a writer leaves: all blocks below the builder, and above it all that are no rows of bytes. -/
structure WFr (b : Nat) (w w' : World) : Prop where
  below : Below b w w'
  kept : Lib.OthersKept 5 (some b) w w'
theorem WFr.refl (b : Nat) (w : World) : WFr b w w := ⟨Below.refl _ _, Lib.OthersKept.refl _ _ _⟩
theorem WFr.trans {b : Nat} {a w w' : World} (h : WFr b a w) (k : WFr b w w') : WFr b a w' := ⟨h.below.trans k.below, h.kept.trans k.kept⟩
theorem WFr.has {b g : Nat} {t : TypeId} {cs : List Value} {w w' : World} (h : WFr b w w') (hh : Has w g t cs) (hg : g < b ∨ (g ≠ b ∧ t ≠ 5)) : Has w' g t cs := by
  rcases hg with hg | ⟨hg, ht⟩
  · exact (h.below.block g hg).trans hh
  · exact h.kept g _ hh (by simpa using hg) (fun c fz e => by injection e with _ e; exact ht e)
theorem WFr.fr {b : Nat} {a w w' : World} {B : Nat} {S : List Nat} (h : Fr B S a w) (k : WFr b w w') (hB : B ≤ b) : Fr B S a w' := h.below k.below hB
theorem Bld.lt {T : TypeId} {b : Nat} {l : List UInt8} {w : World} (h : Bld T b l w) : b < w.heap.size := by
  obtain ⟨p, v, _, hb, _⟩ := h
  rcases Nat.lt_or_ge b w.heap.size with h | h
  · exact h
  · rw [Array.getElem?_eq_none h] at hb; cases hb
theorem Bld.new (w : World) (T : TypeId) : Bld T w.heap.size [] (w.alloc (.cells #[.pointer none, .slice none 0 0] T)) :=
  ⟨.pointer none, .slice none 0 0, .inl rfl, heap_alloc_new w _, World.ownsRowF_nil _ _ _ _, fun _ => rfl⟩
theorem Bld.new' (w : World) (T : TypeId) {g : Nat} (hg : g = w.heap.size) : Bld T g [] (w.alloc (.cells #[.pointer none, .slice none 0 0] T)) := hg ▸ Bld.new w T
theorem Bld.fr {T : TypeId} {b B : Nat} {S : List Nat} {l : List UInt8} {w w' : World} (h : Bld T b l w) (hf : Fr B S w w') (hB : w.heap.size ≤ B) (hS : ∀ k, b ≤ k → k ∉ S) : Bld T b l w' := by
  have hlt := h.lt
  obtain ⟨p, v, hp, hb, ho, h0⟩ := h
  refine ⟨p, v, hp, (hf.block b (by omega) (hS b (Nat.le_refl _))).trans hb, ⟨ho.1, ?_⟩, h0⟩
  rcases ho.2 with h1 | ⟨g, cap, cur, fz, hv, hg, hh, r⟩
  · exact .inl h1
  · have hgl : g < w.heap.size := by
      rcases Nat.lt_or_ge g w.heap.size with h | h
      · exact h
      · rw [Array.getElem?_eq_none h] at hh; cases hh
    exact .inr ⟨g, cap, cur, fz, hv, hg, (hf.block g (by omega) (hS g hg)).trans hh, r⟩
theorem Bld.drew {T : TypeId} {b : Nat} {l : List UInt8} {w : World} (h : Bld T b l w) : Bld T b l w.drew := h
theorem WFr.drew {b : Nat} {a w : World} (h : WFr b a w) : WFr b a w.drew := ⟨h.below.drew, h.kept.drew⟩
theorem infoByte : (Try.prog.info? 5).map (fun i => (i.zero, i.size, i.bytes)) = some (some (.int .u8 0), 1, 1) := by kernel_rfl
theorem sizeBuilder : (Try.prog.info? 82).map (·.size) = some 2 := by kernel_rfl
theorem cellsByte : Try.prog.cellsOf 5 = 1 := by kernel_rfl
set_option maxHeartbeats 1000000 in
set_option maxRecDepth 100000 in
theorem copy_used (b : Nat) (w : World) (h0 : w.cell? ⟨b, 0, none⟩ = some (.pointer (some ⟨b, 0, none⟩))) :
    Calls Try.prog 73 #[.pointer (some ⟨b, 0, none⟩)] w fun e w' => e = .returned (.tuple #[]) ∧ w' = w := by
  obtain ⟨j, hj, _⟩ := Option.map_eq_some_iff.1 sizeBuilder
  go_enter Try.func73, Try.ntmps73
  go_wp2
  rw [Lib.run_neq_ptr_same w _ Try.underlying80 hj]
  go_wp2
  go_end0
  exact ⟨rfl, rfl⟩
set_option maxHeartbeats 1000000 in
set_option maxRecDepth 100000 in
theorem copy_fresh {T : TypeId} (hT : BT T) (b : Nat) (w : World) (h0 : w.cell? ⟨b, 0, none⟩ = some (.pointer none)) (hsh : w.shape? b = some (T, 2)) (hfz : w.frozen? ⟨b, 0, none⟩ = false) :
    Calls Try.prog 73 #[.pointer (some ⟨b, 0, none⟩)] w fun e w' => e = .returned (.tuple #[]) ∧ w' = w.setCell ⟨b, 0, none⟩ (.pointer (some ⟨b, 0, none⟩)) := by
  obtain ⟨j, hj, hjs⟩ := Option.map_eq_some_iff.1 sizeBuilder
  go_enter Try.func73, Try.ntmps73
  go_wp2
  rw [Lib.run_to_unsafe w ⟨b, 0, none⟩ Try.underlying80 Try.underlying104 hj (by rw [hjs]; decide) hsh (Nat.zero_lt_succ 1)]
  simp only [Result.andThen]
  rw [Oper.upon_value]
  go_wp2
  rw [run_callFunc_extern Try.func78 (by kernel_rfl) (by kernel_rfl) (by kernel_rfl) (e := Extern.AbiNoEscape.same) (by kernel_rfl)]
  rw [Lib.run_noEscape]
  simp only [Result.andThen]
  rw [Oper.upon_value]
  go_wp2
  rw [Lib.run_from_unsafe w ⟨b, 0, none⟩ Try.underlying104 Try.underlying80 hj hsh hT.lies]
  simp only [Result.andThen]
  rw [Oper.upon_value]
  go_wp2
  go_end0
  exact ⟨rfl, rfl⟩
/-- Behind copyCheck the builder bears its own address. -/
def BldU (T : TypeId) (b : Nat) (l : List UInt8) (w : World) : Prop :=
  ∃ v, w.heap[b]? = some (.cells #[.pointer (some ⟨b, 0, none⟩), v] T (0, 0)) ∧ w.ownsRowF b 5 1 v l.length (Lib.byteCells l) ∧ (l = [] → v = .slice none 0 0)
theorem BldU.bld {T : TypeId} {b : Nat} {l : List UInt8} {w : World} (h : BldU T b l w) : Bld T b l w := by
  obtain ⟨v, hb, ho, h0⟩ := h
  exact ⟨_, v, .inr rfl, hb, ho, h0⟩
theorem copy_any {T : TypeId} (hT : BT T) (b : Nat) (l : List UInt8) (w : World) (h : Bld T b l w) :
    Calls Try.prog 73 #[.pointer (some ⟨b, 0, none⟩)] w fun e w' => e = .returned (.tuple #[]) ∧ BldU T b l w' ∧ WFr b w w' := by
  obtain ⟨p, v, hp, hb, ho, h0⟩ := h
  have hne := Lib.ownBlock_neF ho hb hT.ne5
  rcases hp with rfl | rfl
  · refine (copy_fresh hT b w (by rw [Lib.cell_of_heap hb]; rfl) (by simp [World.shape?, hb]) (Lib.frozen_of_heap hb 0)).mono ?_
    rintro e w' ⟨rfl, rfl⟩
    refine ⟨rfl, ⟨v, ?_, ?_, h0⟩, (Below.refl b w).setCell (p := ⟨b, 0, none⟩) (Nat.le_refl _) _, (Lib.OthersKept.refl _ _ w).setCell ⟨b, 0, none⟩ rfl _⟩
    · simp [World.setCell, Array.getElem?_modify, hb]
    · exact ho.kept (row := some b) ⟨rfl, rfl, rfl, by simp [World.setCell], fun k _ hk => Below.heap_setCell _ _ _ _ (fun e => hk (by simp [e]))⟩ (Or.inr hne)
  · refine (copy_used b w (by rw [Lib.cell_of_heap hb]; rfl)).mono ?_
    rintro e w' ⟨rfl, rfl⟩
    exact ⟨rfl, ⟨v, hb, ho, h0⟩, WFr.refl _ _⟩
theorem bld_put {T : TypeId} (hT : BT T) {b : Nat} {v v' : Value} {l : List UInt8} {w : World} (hb : w.heap[b]? = some (.cells #[.pointer (some ⟨b, 0, none⟩), v] T (0, 0))) (ho : w.ownsRowF b 5 1 v' l.length (Lib.byteCells l)) (h0 : l = [] → v' = .slice none 0 0) :
    Bld T b l (w.setCell ⟨b, 1, none⟩ v') := by
  have hne := Lib.ownBlock_neF ho hb hT.ne5
  refine ⟨_, v', .inr rfl, ?_, ?_, h0⟩
  · simp [World.setCell, Array.getElem?_modify, hb]
  · exact ho.kept (row := some b) ⟨rfl, rfl, rfl, by simp [World.setCell], fun k _ hk => Below.heap_setCell _ _ _ _ (fun e => hk (by simp [e]))⟩ (Or.inr hne)
theorem byteCells_app (l m : List UInt8) : Lib.byteCells (l ++ m) = Lib.byteCells l ++ Lib.byteCells m := by simp [Lib.byteCells]
theorem byteCells_str (s : ByteArray) : Lib.strCells s = Lib.byteCells s.data.toList := by
  simp [Lib.strCells, Lib.byteCells]
set_option maxHeartbeats 2000000 in
set_option maxRecDepth 100000 in
theorem wbyte_any {T : TypeId} (hT : BT T) (b : Nat) (l : List UInt8) (c : Int) (w : World) (h : Bld T b l w) (hlen : l.length + 1 ≤ 140737488355328) (hc0 : 0 ≤ c) (hc1 : c < 256) :
    Calls Try.prog 57 #[.pointer (some ⟨b, 0, none⟩), .int .u8 c] w fun e w' => e = .returned .nilIface ∧ Bld T b (l ++ [UInt8.ofNat c.toNat]) w' ∧ WFr b w w' := by
  obtain ⟨i0, hi, hz0, hz1, hz2⟩ := info_parts infoByte
  have hlt0 := h.lt
  go_enter Try.func57, Try.ntmps57
  go_wp2_with (go_at_call 73; refine (copy_any hT b l _ h).mono ?_)
  rintro e w1 ⟨rfl, h1, hb1, hk1⟩
  obtain ⟨v, hbk, hown, hv0⟩ := h1
  have hne := Lib.ownBlock_neF hown hbk hT.ne5
  have c0 : w1.cell? ⟨b, 0, none⟩ = some (.pointer (some ⟨b, 0, none⟩)) := by rw [Lib.cell_of_heap hbk]; rfl
  have c1 : w1.cell? ⟨b, 1, none⟩ = some v := by rw [Lib.cell_of_heap hbk]; rfl
  have Hv0 := Lib.hid hv0
  clear hv0
  go_wp2_with (at_builtin; refine wpList_append_ownF _ rfl _ _ 75 rfl b 5 i0 (.int .u8 0) 1 1 Try.underlying75 hi hz0 hz1 hz2 rfl (by decide) _ _ _ rfl (hown.alloc _) ⟨w1.heap.size, 0, none⟩ 1 1 [.int .u8 c] rfl rfl ?c1 ?c2 ?c3 ?c4 ?c5 ?_)
  case c1 =>
    intro j u hj
    match j, hj with
    | 0, hj => simp at hj; subst hj; simp [Addr.add]
  case c2 => intro u hu; simp at hu; subst hu; rfl
  case c3 => unfold maxLen; omega
  case c4 => omega
  case c5 => have := hb1.size; simp; omega
  intro v' w2 hown' hgrow _
  have hlt : b < w1.heap.size := by
    rcases Nat.lt_or_ge b w1.heap.size with h' | h'
    · exact h'
    · simp [Array.getElem?_eq_none h'] at hbk
  have hb2 : w2.heap[b]? = some (.cells #[.pointer (some ⟨b, 0, none⟩), v] T (0, 0)) := by
    rw [hgrow.block b (by simp; omega) (fun e => hne e.symm), Lib.alloc_old w1 _ b hlt]
    exact hbk
  have d0 : w2.cell? ⟨b, 0, none⟩ = some (.pointer (some ⟨b, 0, none⟩)) := by rw [Lib.cell_of_heap hb2]; rfl
  have d1 : w2.cell? ⟨b, 1, none⟩ = some v := by rw [Lib.cell_of_heap hb2]; rfl
  have f1 : w2.frozen? ⟨b, 1, none⟩ = false := Lib.frozen_of_heap hb2 1
  obtain ⟨g, cap, rfl⟩ : ∃ g cap, v' = .slice (some ⟨g, 0, none⟩) (l.length + 1) cap := by
    rcases hown'.2 with ⟨_, h0⟩ | ⟨g, cap, cur, fz, hv, _⟩
    · omega
    · exact ⟨g, cap, hv⟩
  go_wp2
  go_ret
  have hbs : Lib.byteCells (l ++ [UInt8.ofNat c.toNat]) = Lib.byteCells l ++ [.int .u8 c] := by
    rw [byteCells_app]
    have : ((UInt8.ofNat c.toNat).toNat : Int) = c := by rw [UInt8.toNat_ofNat']; omega
    simp [Lib.byteCells, -UInt8.toNat_ofNat', this]
  refine ⟨rfl, ?_, ⟨?_, ((hk1.alloc _).grown hgrow (Lib.ownsRowF_kind (hown.alloc _))).setCell ⟨b, 1, none⟩ rfl _⟩⟩
  · refine bld_put hT hb2 (by rw [hbs]; simpa using hown') (fun h => by simp at h)
  · exact ((hb1.alloc (by have := hb1.size; omega) _).grown hgrow (by have := hb1.size; simp; omega) (fun k hk => (hown.lt k hk).1)).setCell (p := ⟨b, 1, none⟩) (Nat.le_refl _) _
end Go.Proofs.Ytaglginhaofgeaa
