/- slices.Collect, slices.SortFunc at a wheel's keys. -/
import Derived.Test.YtkclpkepmckjgaaWhlClos
import Derived.Test.YtkclpkepmckjgaaLaid
import Derived.Shelf.SlSortCmp.NoneTotal
namespace Go.Proofs.Ytkclpkepmckjgaa
open Go.RowKit Go.Maps Go.Sort Go.Shelf
open Wh
def Wh.tm (D : List (Key × Tm)) (a : Key) : Tm := (getL D a).getD zT
def Wh.tlt (x y : Tm) : Prop := x.at_ < y.at_ ∨ (x.at_ = y.at_ ∧ x.ord < y.ord)
instance (x y : Tm) : Decidable (tlt x y) := by unfold tlt; infer_instance
theorem lt_cfD (D : List (Key × Tm)) (a b : Key) : ltOf (cfD D) a b = decide (tlt (tm D a) (tm D b)) := by
  unfold ltOf cfD
  show decide (orI (cmpI (tm D a).at_ (tm D b).at_) (cmpI (tm D a).ord (tm D b).ord) < 0) = _
  generalize tm D a = x
  generalize tm D b = y
  congr 1
  unfold tlt orI cmpI
  apply propext
  constructor
  · intro h
    repeat' split at h
    all_goals omega
  · intro h
    repeat' split
    all_goals omega
theorem swo_cfD (D : List (Key × Tm)) : SWO (ltOf (cfD D)) where
  irrefl x := by rw [lt_cfD]; unfold tlt; simp
  trans x y z h1 h2 := by
    rw [lt_cfD] at *
    simp only [decide_eq_true_eq] at *
    unfold tlt at *
    omega
  ntrans x y z h1 h2 := by
    rw [lt_cfD] at *
    simp only [decide_eq_false_iff_not] at *
    unfold tlt at *
    omega
theorem perm_lift {α β : Type} (f : α → β) {ss t : List β} (h : ss.Perm t) : ∀ l : List α, t = l.map f → ∃ l' : List α, l'.Perm l ∧ l'.map f = ss := by
  induction h with
  | nil => intro l hl; exact ⟨l, .refl _, hl.symm⟩
  | cons x _ ih =>
    intro l hl
    match l, hl with
    | a :: l, hl =>
      simp only [List.map_cons, List.cons.injEq] at hl
      obtain ⟨l', h1, h2⟩ := ih l hl.2
      exact ⟨a :: l', h1.cons a, by rw [List.map_cons, h2, hl.1]⟩
  | swap x y l0 =>
    intro l hl
    match l, hl with
    | a :: b :: l, hl =>
      simp only [List.map_cons, List.cons.injEq] at hl
      exact ⟨b :: a :: l, .swap _ _ _, by rw [List.map_cons, List.map_cons, hl.1, hl.2.1, hl.2.2]⟩
  | trans _ _ ih1 ih2 =>
    intro l hl
    obtain ⟨l1, h1, h2⟩ := ih2 l hl
    obtain ⟨l2, h3, h4⟩ := ih1 l1 h2.symm
    exact ⟨l2, h3.trans h1, h4⟩
theorem enc_KV (ks : List Key) : (ks.map (·.1)).map encStr = ks.map KV := by rw [List.map_map]; rfl
theorem holds_KV {w : World} {g : Nat} {cur : Array Value} {e : TypeId} {ks : List Key} (hb : w.heap[g]? = some (.cells cur e (0, 0))) (ht : cur.toList.take ks.length = ks.map KV) : Holds KV w g 0 ks.toArray := by
  intro j hj
  have hj' : j < ks.length := by simpa using hj
  refine ⟨?_, by simp [World.frozen?, hb]⟩
  have h1 : (cur.toList.take ks.length)[j]? = (ks.map KV)[j]? := by rw [ht]
  rw [List.getElem?_take_of_lt hj'] at h1
  simp only [World.cell?, hb, Nat.zero_add]
  simp only [Option.isSome_none, Bool.false_eq_true, if_false]
  rw [← Array.getElem?_toList, h1]
  simp [hj']
theorem take_put_KV (cur : Array Value) (ts : List Key) (h : ts.length ≤ cur.size) : (putCells KV 0 ts.toArray cur).toList.take ts.length = ts.map KV := by
  apply List.ext_getElem?
  intro j
  by_cases hj : j < ts.length
  · rw [List.getElem?_take_of_lt hj, Array.getElem?_toList]
    simp [putCells, hj, show j < cur.size by omega]
  · rw [List.getElem?_take_eq_none (by omega), List.getElem?_eq_none (by simp; omega)]
theorem sort_heap {w : World} {g n : Nat} {os : Array Obj} {cur : Array Value} {e : TypeId} {fr : Nat × Nat} (d : Array Key) (hb : w.heap[g]? = some (.cells cur e fr)) :
    (sortWorld KV w g 0 n d os).heap[g]? = some (.cells (putCells KV 0 d cur) e fr) := by
  have hg : g < w.heap.size := (Array.getElem?_eq_some_iff.1 hb).1
  unfold sortWorld
  rw [heap_grow_old _ _ (by simpa using hg)]
  simp [putRow, mapBlock, Sort.ahead, Array.getElem?_modify, hb, onCells]
theorem sort_fr (w : World) (g off n : Nat) (d : Array Key) (os : Array Obj) : Fr w.heap.size [g] w (sortWorld KV w g off n d os) := by
  refine ⟨rfl, rfl, rfl, by simp [sortWorld, Sort.ahead], fun k hk hne => ?_⟩
  unfold sortWorld
  rw [heap_grow_old _ _ (by simpa [Sort.ahead] using hk)]
  have : g ≠ k := fun e => hne (by simp [e])
  simp [putRow, mapBlock, Sort.ahead, Array.getElem?_modify, this]
theorem cmp_lays (w : World) (bx g blk off size : Nat) (F : List Nat) (n : Int) (D : List (Key × Tm)) (h : WhIs w g F n D) (hb : w.cell? ⟨bx, 0, none⟩ = some (.pointer (some ⟨g, 0, none⟩))) (hbx : bx < w.heap.size) (hne : blk ≠ bx) (hF : blk ∉ F) :
    CmpLays1 Try.prog 23 #[.pointer (some ⟨bx, 0, none⟩)] KV (cfD D) blk off size w := by
  intro m os dk hs x y
  have hf := sort_fr w blk off m dk os
  have h2 := h.fr (B := w.heap.size) (S := [blk]) h.lt (fun k hk hkb => by simp at hkb; subst hkb; exact hF hk) hf
  obtain ⟨mp, h3, h4⟩ := h2.ex
  have h5 := hf.size
  exact clos_any _ bx g mp F D ((hf.cell (p := ⟨bx, 0, none⟩) hbx (by simp; exact fun e => hne e.symm)).trans hb) (h3.cell 0) (by omega) h3.lt h4 h2.lt x y
set_option maxHeartbeats 1000000 in
theorem sort_any (w : World) (bx g base : Nat) (F : List Nat) (n : Int) (D : List (Key × Tm)) (h : WhIs w g F n D) (hb : w.cell? ⟨bx, 0, none⟩ = some (.pointer (some ⟨g, 0, none⟩))) (hbx : bx < w.heap.size) (A : Option Addr) (c : Nat) (ks : List Key)
    (hrow : w.ownsRow base 9 1 (.slice A ks.length c) ks.length (ks.map KV)) (hne : bx < base) (hF : ∀ k ∈ F, k < base) (hk : ks.length < 4611686018427387904) :
    Calls Try.prog 27 #[.slice A ks.length c, .func (.func 23) #[] #[.pointer (some ⟨bx, 0, none⟩)]] w fun e w' =>
      e = .returned (.tuple #[]) ∧ ∃ ts : List Key, ts.length = ks.length ∧ ts.Perm ks ∧ ts.Pairwise (fun a b => ltOf (cfD D) b a = false) ∧ w'.ownsRow base 9 1 (.slice A ts.length c) ts.length (ts.map KV) ∧ Fr base [] w w' := by
  rcases hrow.2 with ⟨hv, h0⟩ | ⟨blk, cap, cur, hv, h1, h2, h3, h4, h5, h6⟩
  · obtain rfl : ks = [] := List.eq_nil_of_length_eq_zero h0
    injection hv with hA _ hc
    subst hA hc
    have := AnyF.slices_SortFunc_none (ρ := Try.sortF27_ren) { Try.sortF27 with } none 0 (.func (.func 23) #[] #[.pointer (some ⟨bx, 0, none⟩)]) w
    exact this.mono fun e w' ⟨h1, h2⟩ => ⟨h1, [], rfl, .nil, .nil, by rw [h2]; exact hrow, by rw [h2]; exact Fr.refl _ _ _⟩
  · cases hv
    rw [Nat.mul_one] at h6
    have hS := Any.slices_SortFunc (ρ := Try.sortF27_ren) Try.sortF27 KV (fun _ => rfl) (cfD D) (swo_cfD D) 23 #[.pointer (some ⟨bx, 0, none⟩)] blk 0 c ks.toArray w (enters_of Try.func23 (by kernel_rfl) rfl)
      (cmp_lays w bx g blk 0 ks.toArray.size F n D h hb hbx (by omega) (fun hm => absurd (hF _ hm) (by omega))) (holds_KV h2 h6) (Array.getElem?_eq_some_iff.1 h2).1 (by simpa using hk)
    refine hS.mono ?_
    rintro e w' ⟨he, d', m, os, hp, hs, rfl⟩
    obtain ⟨hp1, -, hp3⟩ := hp
    have hd : d' = d'.toList.toArray := rfl
    have hl : d'.toList.length = ks.length := by simpa using hp1
    refine ⟨he, d'.toList, hl, ?_, ?_, ⟨by simp, .inr ⟨blk, c, _, rfl, h1, sort_heap d' h2, by omega, h4, by simp [putCells, h5], ?_⟩⟩, (sort_fr w blk 0 m d' os).mono ?_ ?_⟩
    · have e1 : List.take ks.length d'.toList = d'.toList := List.take_of_length_le (by omega)
      rw [← e1]
      simpa using hp3
    · rw [List.pairwise_iff_getElem]
      intro i j hi hj hij
      have := hs i j (Nat.zero_le _) hij (by simpa [hp1] using hj)
      rw [getElem!_pos d' j (by simpa using hj), getElem!_pos d' i (by simpa using hi)] at this
      simpa using this
    · rw [Nat.mul_one]
      exact take_put_KV cur d'.toList (by omega)
    · have := (Array.getElem?_eq_some_iff.1 h2).1
      omega
    · intro k hk hkb
      simp at hk
      omega
end Go.Proofs.Ytkclpkepmckjgaa
