/- The dots of clocks, one behind the other: the iterator. -/
import Derived.Test.YtcemlacfldonlaaClkIns2
import Derived.RangeFuncNested
import Derived.RangeFuncBound
import Derived.RangeFuncCalls
import Derived.RangeFuncLeaves
import Derived.Shelf.Abstract
import Derived.Shelf.RegionOpen
import Derived.WalkKit
import Derived.OwnWalkIn
import Derived.TacticsInMore
import Derived.LoopNIn
import Derived.LoopIn
namespace Go.Proofs.Ytcemlacfldonlaa
open Go.RowKit Go.Shelf
open Ck
attribute [local go_sem] Oper.semAt_some
namespace Ck
def Dot.enc (d : Dot) : Array Value := #[.agg #[.int .u64 (d.a : Int), .int .u64 (d.n : Int)]]
/-- The value is a clock with these dots, below n₀. -/
def ClkAt (n₀ : Nat) (W : World) (v : Value) (ds : List Dot) : Prop := ∃ A c, v = .slice A ds.length c ∧ ARow W n₀ A (ds.flatMap Dot.cells)
/-- The value is a list of clocks. -/
def ClksAt (n₀ : Nat) (W : World) (sv : Value) (L : List (List Dot)) : Prop := ∃ A c, ∃ vs : List Value, sv = .slice A L.length c ∧ vs.length = L.length ∧ ARow W n₀ A vs ∧ ∀ (j : Nat) (v : Value) (ds : List Dot), vs[j]? = some v → L[j]? = some ds → ClkAt n₀ W v ds
end Ck
theorem arow_below {n₀ N : Nat} {w w' : World} {A : Option Addr} {vs : List Value} (h : ARow w N A vs) (hN : N ≤ n₀) (hb : Below n₀ w w') : ARow w' N A vs := by
  rcases h with h | ⟨blk, o, hA, hb', hr⟩
  · exact .inl h
  · exact .inr ⟨blk, o, hA, hb', fun j u hu => (hb.cell (p := ⟨blk, o + j, none⟩) (Nat.lt_of_lt_of_le hb' hN)).trans (hr j u hu)⟩
theorem Ck.ClkAt.below {n₀ : Nat} {w w' : World} {v : Value} {ds : List Dot} (h : ClkAt n₀ w v ds) (hb : Below n₀ w w') : ClkAt n₀ w' v ds := by
  obtain ⟨A, c, h1, h2⟩ := h
  exact ⟨A, c, h1, arow_below h2 (Nat.le_refl _) hb⟩
theorem Ck.ClksAt.below {n₀ : Nat} {w w' : World} {v : Value} {L : List (List Dot)} (h : ClksAt n₀ w v L) (hb : Below n₀ w w') : ClksAt n₀ w' v L := by
  obtain ⟨A, c, vs, h1, h2, h3, h4⟩ := h
  exact ⟨A, c, vs, h1, h2, arow_below h3 (Nat.le_refl _) hb, fun j v ds hv hd => (h4 j v ds hv hd).below hb⟩
set_option maxRecDepth 100000 in
set_option maxHeartbeats 2000000 in
theorem all1_in (F : Fence) (n : Nat) (h7 : F.fn 50) (hro : F.round = none) (hn : 1 ≤ n) (l Bs n₀ : Nat) (sv : Value) (L : List (List Dot)) (hL : L.length ≤ 1000000) (hds : ∀ ds ∈ L, ds.length ≤ 8796093022208) (J Jx : List Dot → World → Prop) {B0 : Nat} (hJ : AbidesFrom B0 J)
    (hY : ∀ pre x W, J pre W → pre.length < L.flatten.length → YieldAt F (n - 1) Try.prog l x.enc W fun e W' =>
      (e = .returned (.bool true) ∧ J (pre ++ [x]) W' ∧ Below n₀ W W') ∨ (e = .returned (.bool false) ∧ Jx (pre ++ [x]) W'))
    (W : World) (hn0 : n₀ ≤ W.heap.size) (hBs : W.cell? ⟨Bs, 0, none⟩ = some sv) (hC : ClksAt n₀ W sv L) (h0 : J [] W) :
    CallsIn F n Try.prog 50 #[.func (.yield l) #[] #[], .pointer (some ⟨Bs, 0, none⟩)] W fun e W' => (∃ v, e = .returned v) ∧
      ((∃ ys, ys = L.flatten ∧ J ys W') ∨ (∃ pre, pre <+: L.flatten ∧ Jx pre W')) := by
  obtain ⟨A, c, vs, rfl, hvl, hA, hC⟩ := hC
  refine callsIn_of_wp Try.func50 rfl h7 ?_ hro
  simp only [Try.ntmps50, List.size_toArray, List.length_cons, List.length_nil, Nat.reduceAdd, Nat.reduceSub, Array.replicate_succ, Array.replicate_zero, List.push_toArray, List.append_toArray, List.nil_append, List.cons_append]
  have hal : ∀ pre (W : World) (o : Obj), J pre W → J pre (W.alloc o) := fun pre W o h => hJ pre W _ none h (World.grownBy_alloc W o none) (by simp)
  gi_wp2
  gi_loopw [9] (fun i wr => ∃ k : Nat, k ≤ L.length ∧ i = .int .i64 k ∧ J (L.take k).flatten wr ∧ Below n₀ W wr) (fun i _ => L.length - (intOf i).toNat)
  case atStart => exact ⟨0, Nat.zero_le _, rfl, h0, Below.refl _ _⟩
  case round =>
    obtain ⟨k, hk, rfl, hJs, hnx⟩ := hrel
    by_cases hlt : k < L.length
    · have hki : (k : Int) < L.length := by omega
      obtain ⟨blk, o, rfl, hb, hcv⟩ : ∃ blk o, A = some ⟨blk, o, none⟩ ∧ blk < n₀ ∧ ∀ v, vs[k]? = some v → wr.cell? ⟨blk, o + k, none⟩ = some v := by
        rcases hA with h | ⟨blk, o, hA, hb, hr⟩
        · rw [h] at hvl; simp at hvl; omega
        · exact ⟨blk, o, hA, hb, fun v hv => (hnx.cell (p := ⟨blk, o + k, none⟩) hb).trans (hr k v hv)⟩
      obtain ⟨ds, hd⟩ : ∃ ds, L[k] = ds := ⟨_, rfl⟩
      have hdL : L[k]? = some ds := by rw [List.getElem?_eq_getElem hlt, hd]
      obtain ⟨v, hv⟩ : ∃ v, vs[k]? = some v := ⟨vs[k]'(by omega), List.getElem?_eq_getElem (by omega)⟩
      have hcell := hcv v hv
      obtain ⟨A2, c2, rfl, hA2⟩ := hC k v ds hv hdL
      have hdl := hds ds (List.mem_of_getElem? hdL)
      have htk : (L.take (k + 1)).flatten = (L.take k).flatten ++ ds := by rw [List.take_succ_eq_append_getElem hlt, List.flatten_append, hd]; simp
      have htot : (L.take k).flatten.length + ds.length ≤ L.flatten.length := by
        have h1 : L.flatten = (L.take (k + 1)).flatten ++ (L.drop (k + 1)).flatten := by rw [← List.flatten_append, List.take_append_drop]
        rw [h1, htk]
        simp only [List.length_append]
        omega
      have hpre : ∀ q, q <+: ds → (L.take k).flatten ++ q <+: L.flatten := fun q hq => by
        have h1 : L.flatten = (L.take (k + 1)).flatten ++ (L.drop (k + 1)).flatten := by rw [← List.flatten_append, List.take_append_drop]
        rw [h1, htk]
        obtain ⟨r, rfl⟩ := hq
        exact ⟨r ++ (L.drop (k + 1)).flatten, by simp⟩
      clear hv hcv
      gi_wp2
      gi_loopw [15] (fun i wr => ∃ j : Nat, j ≤ ds.length ∧ i = .int .i64 j ∧ J ((L.take k).flatten ++ ds.take j) wr ∧ Below n₀ W wr) (fun i _ => ds.length - (intOf i).toNat)
      case atStart => exact ⟨0, Nat.zero_le _, rfl, by simpa using hJs, hnx⟩
      case round =>
        obtain ⟨j, hj, rfl, hJs, hnx⟩ := hrel
        by_cases hlj : j < ds.length
        · have hji : (j : Int) < ds.length := by omega
          obtain ⟨b2, o2, rfl, hb2, d0, d1⟩ := dot_cells (arow_below hA2 (Nat.le_refl _) hnx) j hlj
          obtain ⟨x, hx⟩ : ∃ x, ds[j] = x := ⟨_, rfl⟩
          rw [hx] at d0 d1
          have htj : ds.take (j + 1) = ds.take j ++ [x] := by rw [List.take_succ_eq_append_getElem hlj, hx]
          obtain ⟨fn, tmps, assign, body, hy, hR⟩ := hY _ x (wr.alloc (.cells #[.int .u64 (x.a : Int), .int .u64 (x.n : Int)] 92)) (hal _ _ _ hJs) (by rw [List.length_append, List.length_take]; omega)
          dsimp only [Dot.enc] at hy
          gi_wp2
          refine hR.mono ?_
          rintro e W3 (⟨rfl, hJ3, hk3⟩ | ⟨rfl, hJx3⟩)
          · gi_wp2
            go_roundw
            case rel => exact ⟨j + 1, by omega, by simp, by rw [htj, ← List.append_assoc]; exact hJ3, (hnx.alloc (Nat.le_trans hn0 hnx.size) _).trans hk3⟩
            case measure => simp [intOf]; omega
          · gi_wp2
            refine bodyPost_ret (results_none rfl _ _ _) rfl ?_
            refine ⟨⟨_, rfl⟩, .inr ⟨_, ?_, hJx3⟩⟩
            rw [List.append_assoc, ← htj]
            exact hpre _ (List.take_prefix _ _)
        · obtain rfl : j = ds.length := by omega
          have hji : ¬ ((ds.length : Int) < ds.length) := by omega
          rw [List.take_length, ← htk] at hJs
          gi_wp2
          go_roundw
          case rel => exact ⟨k + 1, by omega, by simp, hJs, hnx⟩
          case measure => simp [intOf]; omega
    · obtain rfl : k = L.length := by omega
      have hki : ¬ ((L.length : Int) < L.length) := by omega
      gi_wp2
      go_end0
      rw [List.take_length] at hJs
      exact ⟨⟨_, rfl⟩, .inl (by first | exact hJs | exact ⟨_, rfl, hJs⟩)⟩
set_option maxHeartbeats 1000000 in
theorem all_in (F : Fence) (n : Nat) (h5 : F.fn 35) (hro : F.round = none) (sv : Value) (a : Option Addr) (len cap : Nat) (hs : sv = .slice a len cap) (w : World) :
    CallsIn F n Try.prog 35 #[sv] w fun e w' => e = .returned (.func (.func 50) #[] #[.pointer (some ⟨w.heap.size, 0, none⟩)]) ∧ w' = w.alloc (.cells #[sv] 86) := by
  subst hs
  refine callsIn_of_wp Try.func35 rfl h5 ?_ hro
  simp only [Try.ntmps35, List.size_toArray, List.length_cons, List.length_nil, Nat.reduceAdd, Nat.reduceSub, Array.replicate_succ, Array.replicate_zero, List.push_toArray, List.append_toArray, List.nil_append, List.cons_append]
  gi_wp2
  go_ret
  exact ⟨rfl, rfl⟩
/-- The dots of the clocks, in their order; or a beginning of them. -/
theorem all_stops (F : Fence) (n : Nat) (h7 : F.fn 50) (hro : F.round = none) (hn : 1 ≤ n) (Bs n₀ : Nat) (sv : Value) (L : List (List Dot)) (hL : L.length ≤ 1000000) (hds : ∀ ds ∈ L, ds.length ≤ 8796093022208) (w : World) (hBs : Bs < w.heap.size) (hn₀ : n₀ ≤ w.heap.size)
    (hc : w.cell? ⟨Bs, 0, none⟩ = some sv) (hC : ClksAt n₀ w sv L) :
    SeqStopsK F n Try.prog 50 #[.pointer (some ⟨Bs, 0, none⟩)] Dot.enc (Below n₀) (fun ys => ys = L.flatten) (fun pre => pre <+: L.flatten) L.flatten.length w := fun l J Jx W hW hJ _ hY h0 =>
  all1_in F n h7 hro hn l Bs n₀ sv L hL hds J Jx hJ hY W (Nat.le_trans hn₀ hW.size) ((hW.cell (p := ⟨Bs, 0, none⟩) hBs).trans hc) (hC.below (hW.mono hn₀)) h0
end Go.Proofs.Ytcemlacfldonlaa
