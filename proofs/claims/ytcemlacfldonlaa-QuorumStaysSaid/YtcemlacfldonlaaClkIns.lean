/- slices.Insert of one dot. -/
import Derived.Test.YtcemlacfldonlaaClkBs
import Derived.Shelf.Spec.SlicesInsertGrow
namespace Go.Proofs.Ytcemlacfldonlaa
open Go.RowKit
open Ck
theorem run_copy_k {P : Program} (w : World) (dT sT ty elem : TypeId) (sz b o dLen dCap : Nat) (a : Addr) (sLen sCap : Nat) (cs : List Value)
    (hu : P.underlying dT = some (.slice elem)) (hs : (P.info? elem).map (·.size) = some sz) (hn : cs.length = Nat.min sLen dLen * sz)
    (hsrc : ∀ j v, cs[j]? = some v → w.cell? (a.add j) = some v) (hc : ∀ j, j < cs.length → (w.cell? ⟨b, o + j, none⟩).isSome = true) (hf : ∀ j, j < cs.length → w.frozen? ⟨b, o + j, none⟩ = false) (h1 : ∀ v ∈ cs, v.oneCell' = true) :
    (Builtin.copy_ #[dT, sT] ty #[.slice (some ⟨b, o, none⟩) dLen dCap, .slice (some a) sLen sCap]).run P w = .ok (goInt (Nat.min sLen dLen)) (w.setCells b o cs) := by
  have hl := run_loadCells_list (P := P) w a cs hsrc
  have hst := run_storeCells_cells (P := P) b o cs 0 w (by simpa using hc) (by simpa using hf) h1
  cases hq : P.info? elem with
  | none => simp [hq] at hs
  | some i =>
    have hi : i.size = sz := by simpa [hq] using hs
    simp [Builtin.copy_, run_underlying hu, Builtin.lenOf, Builtin.firstCells, sizeOf, typeInfo, hq, hi, ← hn, hl, hst]
namespace Ck
def insD (l : List Dot) (i : Nat) (d : Dot) : List Dot := l.take i ++ d :: l.drop i
end Ck
theorem flatD_len (l : List Dot) : (l.flatMap Dot.cells).length = l.length * 2 := flatMap_len Dot.cells 2 (fun _ => rfl) l
theorem flatD_take (l : List Dot) : ∀ k, (l.flatMap Dot.cells).take (k * 2) = (l.take k).flatMap Dot.cells := by
  induction l with
  | nil => intro k; simp
  | cons d l ih =>
    intro k
    cases k with
    | zero => simp
    | succ k =>
      rw [List.flatMap_cons, show (k + 1) * 2 = d.cells.length + k * 2 by simp [Dot.cells]; omega, List.take_length_add_append, ih, List.take_succ_cons, List.flatMap_cons]
theorem flatD_drop (l : List Dot) : ∀ k, (l.flatMap Dot.cells).drop (k * 2) = (l.drop k).flatMap Dot.cells := by
  induction l with
  | nil => intro k; simp
  | cons d l ih =>
    intro k
    cases k with
    | zero => simp
    | succ k =>
      rw [List.flatMap_cons, show (k + 1) * 2 = d.cells.length + k * 2 by simp [Dot.cells]; omega, List.drop_length_add_append, ih, List.drop_succ_cons]
theorem onesD (l : List Dot) : ∀ u ∈ l.flatMap Dot.cells, u.oneCell' = true := by
  intro u hu
  obtain ⟨d, _, hd⟩ := List.mem_flatMap.1 hu
  simp only [Dot.cells, List.mem_cons, List.not_mem_nil, or_false] at hd
  rcases hd with rfl | rfl <;> rfl
theorem infoDot : (Try.prog.info? 92).map (fun i => (i.zero, i.size, i.bytes)) = some (some (.agg #[.int .u64 0, .int .u64 0]), 2, 16) := by kernel_rfl
theorem sizeDot : (Try.prog.info? 92).map (·.size) = some 2 := by kernel_rfl
set_option maxHeartbeats 4000000 in
set_option maxRecDepth 100000 in
theorem ins_shift (w : World) (b c i vb vc : Nat) (l : List Dot) (d : Dot) (cs0 : List Value) (hH : Has w b 92 cs0) (hcl : cs0.length = c * 2) (htk : cs0.take (l.length * 2) = l.flatMap Dot.cells) (hi : i < l.length) (hroom : l.length + 1 ≤ c) (hc63 : c ≤ 9223372036854775807) (hvb : vb ≠ b)
    (hv : Has w vb 92 d.cells) :
    Calls Try.prog 39 #[.slice (some ⟨b, 0, none⟩) l.length c, .int .i64 (i : Int), .slice (some ⟨vb, 0, none⟩) 1 vc] w fun e w' =>
      e = .returned (.slice (some ⟨b, 0, none⟩) (l.length + 1) c) ∧ w' = (w.drew.setCells b ((i + 1) * 2) ((l.drop i).flatMap Dot.cells)).setCells b (i * 2) d.cells := by
  obtain ⟨n, hn⟩ : ∃ n, l.length = n := ⟨_, rfl⟩
  rw [hn] at htk hi hroom ⊢
  have hz2 : ¬ ((i : Int) = (n : Int)) := by omega
  have hdl : ((l.drop i).flatMap Dot.cells).length = (n - i) * 2 := by rw [flatD_len, List.length_drop, hn]
  have hov : ∀ lb cb, (callFunc 52 #[.slice (some ⟨vb, 0, none⟩) 1 vc, .slice (some ⟨b, (i + 1) * 2, none⟩) lb cb]).run Try.prog w = .ok (.value (.bool false)) w := fun lb cb => by
    rw [run_callFunc_extern Try.func52 (by kernel_rfl) (by kernel_rfl) (by kernel_rfl) (e := Extern.SlicesOverlaps.overlaps #[30, 30] #[4]) (by kernel_rfl),
      Lib.run_overlaps_apart w 30 4 92 Try.underlying30 2 (fun w => Try.sizeOf92 w) ⟨vb, 0, none⟩ ⟨b, (i + 1) * 2, none⟩ 1 vc lb cb hvb 92 92 2 (c * 2) (by unfold World.shape?; rw [show w.heap[vb]? = _ from hv]; rfl) (by unfold World.shape?; rw [show w.heap[b]? = _ from hH]; simp [hcl]) (by omega) (hv.frozen 0) (hv.frozen 2)]
    rfl
  have hw1 : IntKind.i64.wrap ((i : Int) + 1) = (i : Int) + 1 := IntWalk.i64_in _ (by omega)
  have hb5 : (i : Int) ≤ (n : Int) := by omega
  have hb1 : (0 : Int) ≤ (i : Int) + 1 := by omega
  have hin : i ≤ n := by omega
  have htn : ((i : Int) + 1).toNat = i + 1 := by omega
  have hb2 : ¬ (c = i + 1) := by omega
  have hb3 : (i : Int) ≤ (n : Int) + 1 := by omega
  have hb4 : ¬ (c = i) := by omega
  have hget : ∀ j v, ((l.drop i).flatMap Dot.cells)[j]? = some v → cs0[i * 2 + j]? = some v := fun j v hj => by
    rw [← flatD_drop, ← htk, List.getElem?_drop, List.getElem?_take] at hj
    split at hj
    · exact hj
    · cases hj
  have hcp1 : ∀ ty dc sc, (Builtin.copy_ #[31, 31] ty #[.slice (some ⟨b, (i + 1) * 2, none⟩) (n - i) dc, .slice (some ⟨b, i * 2, none⟩) (n + 1 - i) sc]).run Try.prog w.drew = .ok (goInt ((n - i : Nat) : Int)) (w.drew.setCells b ((i + 1) * 2) ((l.drop i).flatMap Dot.cells)) := fun ty dc sc => by
    have hmin : Nat.min (n + 1 - i) (n - i) = n - i := by simp only [Nat.min_def]; split <;> omega
    have h := run_copy_k (P := Try.prog) w.drew 31 31 ty 92 2 b ((i + 1) * 2) (n - i) dc ⟨b, i * 2, none⟩ (n + 1 - i) sc ((l.drop i).flatMap Dot.cells) Try.underlying31 sizeDot (by rw [hdl, hmin])
      (fun j v hj => by rw [Addr.add_lit]; exact (hH.drew.cell _).trans (hget j v hj)) (fun j hj => by rw [hH.drew.cell, List.getElem?_eq_getElem (by omega)]; rfl) (fun j hj => hH.drew.frozen _) (onesD _)
    rw [hmin] at h
    exact h
  obtain ⟨h1, o1⟩ := setCells_has ((l.drop i).flatMap Dot.cells) ((i + 1) * 2) w.drew cs0 hH.drew (by rw [hdl]; omega)
  have hv1 : Has (w.drew.setCells b ((i + 1) * 2) ((l.drop i).flatMap Dot.cells)) vb 92 d.cells := hv.drew.one o1 hvb
  obtain ⟨W1, hW1⟩ : ∃ W1, w.drew.setCells b ((i + 1) * 2) ((l.drop i).flatMap Dot.cells) = W1 := ⟨_, rfl⟩
  rw [hW1] at hcp1 hv1 h1 ⊢
  have hl1 : (cs0.take ((i + 1) * 2) ++ (l.drop i).flatMap Dot.cells ++ cs0.drop ((i + 1) * 2 + ((l.drop i).flatMap Dot.cells).length)).length = c * 2 := by simp only [List.length_append, List.length_take, List.length_drop, hdl]; omega
  have hcp2 : ∀ ty dc, (Builtin.copy_ #[31, 30] ty #[.slice (some ⟨b, i * 2, none⟩) (n + 1 - i) dc, .slice (some ⟨vb, 0, none⟩) 1 vc]).run Try.prog W1 = .ok (goInt 1) (W1.setCells b (i * 2) d.cells) := fun ty dc => by
    have hmin : Nat.min 1 (n + 1 - i) = 1 := by simp only [Nat.min_def]; split <;> omega
    have h := run_copy_k (P := Try.prog) W1 31 30 ty 92 2 b (i * 2) (n + 1 - i) dc ⟨vb, 0, none⟩ 1 vc d.cells Try.underlying31 sizeDot (by rw [hmin]; rfl)
      (fun j v hj => by rw [Addr.add_lit, Nat.zero_add]; exact (hv1.cell _).trans hj) (fun j hj => by rw [h1.cell, List.getElem?_eq_getElem (by rw [hl1]; simp [Dot.cells] at hj; omega)]; rfl) (fun j hj => h1.frozen _) (by intro u hu; simp only [Dot.cells, List.mem_cons, List.not_mem_nil, or_false] at hu; rcases hu with rfl | rfl <;> rfl)
    rw [hmin] at h
    exact h
  clear hW1 hget
  have mixed : Try.prog.follows .mixedOrders = true := by kernel_rfl
  go_enter Try.func39, Try.ntmps39
  go_wp2_with (simp only [hov])
  go_region_law_o (refine step_copy_runI rfl _ _ 31 31 rfl _ _ (by simp [Act.eval, Act.put]) (by simp [Act.eval, Act.put]) (hcp1 _ _ _) ?_)
  go_wp2_with (at_builtin; refine wpList_copy_runI _ rfl _ _ 31 30 rfl _ _ rfl rfl (hcp2 _ _) ?_)
  go_ret
  exact ⟨rfl, rfl⟩
end Go.Proofs.Ytcemlacfldonlaa
