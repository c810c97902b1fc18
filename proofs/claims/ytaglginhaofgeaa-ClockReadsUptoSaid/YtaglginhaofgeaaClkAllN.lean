/- The iterator, where the body keeps just the blocks of which N speaks. -/
import Derived.Test.YtaglginhaofgeaaClkAll
namespace Go.Proofs.Ytaglginhaofgeaa
open Go.RowKit Go.Shelf
open Ck
attribute [local go_sem] Oper.semAt_some
namespace Ck
structure KpN (N : Nat → Prop) (W W' : World) : Prop where
  size : W.heap.size ≤ W'.heap.size
  block : ∀ k, N k → W'.heap[k]? = W.heap[k]?
theorem KpN.refl (N : Nat → Prop) (W : World) : KpN N W W := ⟨Nat.le_refl _, fun _ _ => rfl⟩
theorem KpN.trans {N : Nat → Prop} {a b c : World} (h : KpN N a b) (k : KpN N b c) : KpN N a c := ⟨Nat.le_trans h.size k.size, fun i hi => (k.block i hi).trans (h.block i hi)⟩
theorem KpN.alloc {N : Nat → Prop} {a b : World} (h : KpN N a b) (hN : ∀ k, N k → k < b.heap.size) (o : Obj) : KpN N a (b.alloc o) := ⟨by have := h.size; simp; omega, fun k hk => (Below.heap_alloc b o k (hN k hk)).trans (h.block k hk)⟩
theorem KpN.of_fr {N : Nat → Prop} {B : Nat} {S : List Nat} {a b : World} (h : Fr B S a b) (hN : ∀ k, N k → k < B ∧ k ∉ S) : KpN N a b := ⟨h.size, fun k hk => h.block k (hN k hk).1 (hN k hk).2⟩
theorem KpN.cell {N : Nat → Prop} {a b : World} (h : KpN N a b) {p : Addr} (hp : N p.block) : b.cell? p = a.cell? p := World.cell?_of_block (w := a) (h.block p.block hp)
def RowN (N : Nat → Prop) (W : World) (A : Option Addr) (vs : List Value) : Prop := vs = [] ∨ ∃ blk o, A = some ⟨blk, o, none⟩ ∧ N blk ∧ blk < W.heap.size ∧ ∀ j u, vs[j]? = some u → W.cell? ⟨blk, o + j, none⟩ = some u
def ClkN (N : Nat → Prop) (W : World) (v : Value) (ds : List Dot) : Prop := ∃ A c, v = .slice A ds.length c ∧ RowN N W A (ds.flatMap Dot.cells)
def ClksN (N : Nat → Prop) (W : World) (sv : Value) (L : List (List Dot)) : Prop := ∃ A c, ∃ vs : List Value, sv = .slice A L.length c ∧ vs.length = L.length ∧ RowN N W A vs ∧ ∀ (j : Nat) (v : Value) (ds : List Dot), vs[j]? = some v → L[j]? = some ds → ClkN N W v ds
theorem RowN.kp {N : Nat → Prop} {w w' : World} {A : Option Addr} {vs : List Value} (h : RowN N w A vs) (hb : KpN N w w') : RowN N w' A vs := by
  rcases h with h | ⟨blk, o, hA, hn, hl, hr⟩
  · exact .inl h
  · exact .inr ⟨blk, o, hA, hn, Nat.lt_of_lt_of_le hl hb.size, fun j u hu => (hb.cell (p := ⟨blk, o + j, none⟩) hn).trans (hr j u hu)⟩
theorem RowN.arow {N : Nat → Prop} {w : World} {A : Option Addr} {vs : List Value} (h : RowN N w A vs) : ARow w w.heap.size A vs := by
  rcases h with h | ⟨blk, o, hA, hn, hl, hr⟩
  · exact .inl h
  · exact .inr ⟨blk, o, hA, hl, hr⟩
theorem ClksN.kp {N : Nat → Prop} {w w' : World} {v : Value} {L : List (List Dot)} (h : ClksN N w v L) (hb : KpN N w w') : ClksN N w' v L := by
  obtain ⟨A, c, vs, h1, h2, h3, h4⟩ := h
  refine ⟨A, c, vs, h1, h2, h3.kp hb, fun j v ds hv hd => ?_⟩
  obtain ⟨A2, c2, h5, h6⟩ := h4 j v ds hv hd
  exact ⟨A2, c2, h5, h6.kp hb⟩
end Ck
set_option maxRecDepth 100000 in
set_option maxHeartbeats 2000000 in
theorem all1N_in (F : Fence) (n : Nat) (h7 : F.fn 61) (hro : F.round = none) (hn : 1 ≤ n) (l Bs : Nat) (N : Nat → Prop) (sv : Value) (L : List (List Dot)) (hL : L.length ≤ 1000000) (hds : ∀ ds ∈ L, ds.length ≤ 8796093022208) (Pd : Dot → Prop) (hPd : ∀ ds ∈ L, ∀ d ∈ ds, Pd d) (J Jx : List Dot → World → Prop) {B0 : Nat} (hJ : AbidesFrom B0 J)
    (hY : ∀ pre x W, Pd x → J pre W → pre.length < L.flatten.length → YieldAt F (n - 1) Try.prog l x.enc W fun e W' =>
      (e = .returned (.bool true) ∧ J (pre ++ [x]) W' ∧ KpN N W W') ∨ (e = .returned (.bool false) ∧ Jx (pre ++ [x]) W'))
    (W : World) (hn0 : ∀ k, N k → k < W.heap.size) (hBs : W.cell? ⟨Bs, 0, none⟩ = some sv) (hC : ClksN N W sv L) (h0 : J [] W) :
    CallsIn F n Try.prog 61 #[.func (.yield l) #[] #[], .pointer (some ⟨Bs, 0, none⟩)] W fun e W' => (∃ v, e = .returned v) ∧
      ((∃ ys, ys = L.flatten ∧ J ys W') ∨ (∃ pre, pre <+: L.flatten ∧ Jx pre W')) := by
  obtain ⟨A, c, vs, rfl, hvl, hA, hC⟩ := hC
  refine callsIn_of_wp Try.func61 rfl h7 ?_ hro
  simp only [Try.ntmps61, List.size_toArray, List.length_cons, List.length_nil, Nat.reduceAdd, Nat.reduceSub, Array.replicate_succ, Array.replicate_zero, List.push_toArray, List.append_toArray, List.nil_append, List.cons_append]
  have hal : ∀ pre (W : World) (o : Obj), J pre W → J pre (W.alloc o) := fun pre W o h => hJ pre W _ none h (World.grownBy_alloc W o none) (by simp)
  gi_wp2
  gi_loopw [9] (fun i wr => ∃ k : Nat, k ≤ L.length ∧ i = .int .i64 k ∧ J (L.take k).flatten wr ∧ KpN N W wr) (fun i _ => L.length - (intOf i).toNat)
  case atStart => exact ⟨0, Nat.zero_le _, rfl, h0, KpN.refl _ _⟩
  case round =>
    obtain ⟨k, hk, rfl, hJs, hnx⟩ := hrel
    by_cases hlt : k < L.length
    · have hki : (k : Int) < L.length := by omega
      obtain ⟨blk, o, rfl, hb, hcv⟩ : ∃ blk o, A = some ⟨blk, o, none⟩ ∧ N blk ∧ ∀ v, vs[k]? = some v → wr.cell? ⟨blk, o + k, none⟩ = some v := by
        rcases hA with h | ⟨blk, o, hA, hb, _, hr⟩
        · rw [h] at hvl; simp at hvl; omega
        · exact ⟨blk, o, hA, hb, fun v hv => (hnx.cell (p := ⟨blk, o + k, none⟩) hb).trans (hr k v hv)⟩
      obtain ⟨ds, hd⟩ : ∃ ds, L[k] = ds := ⟨_, rfl⟩
      have hdL : L[k]? = some ds := by rw [List.getElem?_eq_getElem hlt, hd]
      obtain ⟨v, hv⟩ : ∃ v, vs[k]? = some v := ⟨vs[k]'(by omega), List.getElem?_eq_getElem (by omega)⟩
      have hcell := hcv v hv
      obtain ⟨A2, c2, rfl, hA2⟩ := hC k v ds hv hdL
      have hdl := hds ds (List.mem_of_getElem? hdL)
      have hpd := hPd ds (List.mem_of_getElem? hdL)
      have htk : (L.take (k + 1)).flatten = (L.take k).flatten ++ ds := by rw [List.take_succ_eq_append_getElem hlt, List.flatten_append, hd]; simp
      have htot : (L.take k).flatten.length + ds.length ≤ L.flatten.length := by
        have h1 : L.flatten = (L.take (k + 1)).flatten ++ (L.drop (k + 1)).flatten := by rw [← List.flatten_append, List.take_append_drop]
        rw [h1, htk]
        simp only [List.length_append]
        omega
      have hpre : ∀ q, q <+: ds → (L.take k).flatten ++ q <+: L.flatten := fun q hq => by
        have h1 : L.flatten = (L.take (k + 1)).flatten ++ (L.drop (k + 1)).flatten := by rw [← List.flatten_append, List.take_append_drop]
        rw [h1, htk]
        obtain ⟨r, rfl⟩ := hq
        exact ⟨r ++ (L.drop (k + 1)).flatten, by simp⟩
      clear hv hcv
      gi_wp2
      gi_loopw [15] (fun i wr => ∃ j : Nat, j ≤ ds.length ∧ i = .int .i64 j ∧ J ((L.take k).flatten ++ ds.take j) wr ∧ KpN N W wr) (fun i _ => ds.length - (intOf i).toNat)
      case atStart => exact ⟨0, Nat.zero_le _, rfl, by simpa using hJs, hnx⟩
      case round =>
        obtain ⟨j, hj, rfl, hJs, hnx⟩ := hrel
        by_cases hlj : j < ds.length
        · have hji : (j : Int) < ds.length := by omega
          obtain ⟨b2, o2, rfl, hb2, d0, d1⟩ := dot_cells (hA2.kp hnx).arow j hlj
          obtain ⟨x, hx⟩ : ∃ x, ds[j] = x := ⟨_, rfl⟩
          have hpx := hpd _ (List.getElem_mem hlj)
          rw [hx] at d0 d1 hpx
          have htj : ds.take (j + 1) = ds.take j ++ [x] := by rw [List.take_succ_eq_append_getElem hlj, hx]
          obtain ⟨fn, tmps, assign, body, hy, hR⟩ := hY _ x (wr.alloc (.cells #[.int .u64 (x.a : Int), .int .u64 (x.n : Int)] 27)) hpx (hal _ _ _ hJs) (by rw [List.length_append, List.length_take]; omega)
          dsimp only [Dot.enc] at hy
          gi_wp2
          refine hR.mono ?_
          rintro e W3 (⟨rfl, hJ3, hk3⟩ | ⟨rfl, hJx3⟩)
          · gi_wp2
            go_roundw
            case rel => exact ⟨j + 1, by omega, by simp, by rw [htj, ← List.append_assoc]; exact hJ3, (hnx.alloc (fun k hk => Nat.lt_of_lt_of_le (hn0 k hk) hnx.size) _).trans hk3⟩
            case measure => simp [intOf]; omega
          · gi_wp2
            refine bodyPost_ret (results_none rfl _ _ _) rfl ?_
            refine ⟨⟨_, rfl⟩, .inr ⟨_, ?_, hJx3⟩⟩
            rw [List.append_assoc, ← htj]
            exact hpre _ (List.take_prefix _ _)
        · obtain rfl : j = ds.length := by omega
          have hji : ¬ ((ds.length : Int) < ds.length) := by omega
          rw [List.take_length, ← htk] at hJs
          gi_wp2
          go_roundw
          case rel => exact ⟨k + 1, by omega, by simp, hJs, hnx⟩
          case measure => simp [intOf]; omega
    · obtain rfl : k = L.length := by omega
      have hki : ¬ ((L.length : Int) < L.length) := by omega
      gi_wp2
      go_end0
      rw [List.take_length] at hJs
      exact ⟨⟨_, rfl⟩, .inl (by first | exact hJs | exact ⟨_, rfl, hJs⟩)⟩
/-- The dots of the clocks, in their order; or a beginning of them. -/
theorem all_stopsN (F : Fence) (n : Nat) (h7 : F.fn 61) (hro : F.round = none) (hn : 1 ≤ n) (Bs : Nat) (N : Nat → Prop) (sv : Value) (L : List (List Dot)) (hL : L.length ≤ 1000000) (hds : ∀ ds ∈ L, ds.length ≤ 8796093022208) (w : World) (hBs : Bs < w.heap.size) (hN : ∀ k, N k → k < w.heap.size)
    (hc : w.cell? ⟨Bs, 0, none⟩ = some sv) (hC : ClksN N w sv L) :
    SeqStopsK F n Try.prog 61 #[.pointer (some ⟨Bs, 0, none⟩)] Dot.enc (KpN N) (fun ys => ys = L.flatten) (fun pre => pre <+: L.flatten) L.flatten.length w := fun l J Jx W hW hJ _ hY h0 =>
  all1N_in F n h7 hro hn l Bs N sv L hL hds (fun _ => True) (fun _ _ _ _ => trivial) J Jx hJ (fun pre x W _ => hY pre x W) W (fun k hk => Nat.lt_of_lt_of_le (hN k hk) hW.size) ((hW.cell (p := ⟨Bs, 0, none⟩) hBs).trans hc) (hC.kp ⟨hW.size, fun k hk => hW.block k (hN k hk)⟩) h0
/-- So, of dots of which something is known. -/
theorem all_stopsP (F : Fence) (n : Nat) (h7 : F.fn 61) (hro : F.round = none) (hn : 1 ≤ n) (Bs : Nat) (N : Nat → Prop) (sv : Value) (L : List (List Dot)) (hL : L.length ≤ 1000000) (hds : ∀ ds ∈ L, ds.length ≤ 8796093022208) (w : World) (hBs : Bs < w.heap.size) (hN : ∀ k, N k → k < w.heap.size)
    (hc : w.cell? ⟨Bs, 0, none⟩ = some sv) (hC : ClksN N w sv L) (Pd : Dot → Prop) (hPd : ∀ ds ∈ L, ∀ d ∈ ds, Pd d) :
    SeqStopsK F n Try.prog 61 #[.pointer (some ⟨Bs, 0, none⟩)] (fun x : { d : Dot // Pd d } => Dot.enc x.1) (KpN N) (fun ys => ys.map Subtype.val = L.flatten) (fun pre => pre.map Subtype.val <+: L.flatten) L.flatten.length w := fun l J Jx W hW hJ _ hY h0 => by
  refine (all1N_in F n h7 hro hn l Bs N sv L hL hds Pd hPd (fun pre W => ∃ q, q.map Subtype.val = pre ∧ J q W) (fun pre W => ∃ q, q.map Subtype.val = pre ∧ Jx q W) (B0 := W.heap.size) (by rintro s X Y row ⟨q, h1, h2⟩ hg hr; exact ⟨q, h1, hJ q X Y row h2 hg hr⟩) ?_ W (fun k hk => Nat.lt_of_lt_of_le (hN k hk) hW.size) ((hW.cell (p := ⟨Bs, 0, none⟩) hBs).trans hc) (hC.kp ⟨hW.size, fun k hk => hW.block k (hN k hk)⟩) ⟨[], rfl, h0⟩).mono ?_
  · rintro pre x W hx ⟨q, rfl, hq⟩ hlt
    obtain ⟨fn, tmps, assign, body, hy, hR⟩ := hY q ⟨x, hx⟩ W hq (by simpa using hlt)
    refine ⟨fn, tmps, assign, body, hy, hR.mono ?_⟩
    rintro e W' (⟨h1, h2, h3⟩ | ⟨h1, h2⟩)
    · exact .inl ⟨h1, ⟨_, by simp, h2⟩, h3⟩
    · exact .inr ⟨h1, _, by simp, h2⟩
  · rintro e W' ⟨h1, ⟨ys, rfl, q, h2, h3⟩ | ⟨pre, h2, q, rfl, h3⟩⟩
    · exact ⟨h1, .inl ⟨q, h2, h3⟩⟩
    · exact ⟨h1, .inr ⟨q, h2, h3⟩⟩
end Go.Proofs.Ytaglginhaofgeaa
