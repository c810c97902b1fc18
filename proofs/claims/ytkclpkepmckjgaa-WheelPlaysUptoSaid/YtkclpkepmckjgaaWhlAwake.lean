/- The chapter's examples. -/
import Derived.Test.YtkclpkepmckjgaaWhlAt
namespace Go.Proofs.Ytkclpkepmckjgaa
open Go.RowKit Go.Maps Go.Sort Go.Shelf
open Wh
theorem lit_row (W : World) (xs : List Key) : ARow (W.alloc (.cells (xs.map KV).toArray 9)) (W.alloc (.cells (xs.map KV).toArray 9)).heap.size (some ⟨W.heap.size, 0, none⟩) (xs.map KV) := by
  have h := Has.new W 9 (xs.map KV)
  refine .inr ⟨_, 0, rfl, h.lt, ?_⟩
  have := h.range 0 (xs.map KV).length
  rw [List.drop_zero, List.take_length] at this
  exact this
section
variable {B : Nat} {K : List Nat} {w W : World} {g : Nat} {n : Int} {L : List (Key × Int)}
theorem at_set_lit (h : WAt B K w W g n L) (a : Int) (xs : List Key) (c : Nat) (hn0 : 0 ≤ n) (hn : n + xs.length ≤ 4611686018427387904) :
    Calls Try.prog 13 #[.pointer (some ⟨g, 0, none⟩), .int .i64 a, .slice (some ⟨W.heap.size, 0, none⟩) xs.length c] (W.alloc (.cells (xs.map KV).toArray 9)) fun e w' => e = .returned (.tuple #[]) ∧ WAt B K w w' g (n + xs.length) (setV a L xs) ∧ Kp K W w' := by
  have h1 := h.keep (.cells (xs.map KV).toArray 9)
  refine (at_set h1 a _ c xs (lit_row W xs) (fun _ => by rintro _ _ ⟨⟩; exact .inl (by simp)) hn0 hn).mono fun e w' ⟨k1, k2, k3⟩ => ⟨k1, k2.drop fun k hk => by simp [hk], fun k hk => (k3 k (by simp [hk])).trans (Below.heap_alloc _ _ k (h.klt k hk))⟩
theorem at_cancel_lit (h : WAt B K w W g n L) (xs : List Key) (c : Nat) (hl : L.length ≤ 4611686018427387904) (hx : xs.length ≤ 4611686018427387904) :
    Calls Try.prog 9 #[.pointer (some ⟨g, 0, none⟩), .slice (some ⟨W.heap.size, 0, none⟩) xs.length c] (W.alloc (.cells (xs.map KV).toArray 9)) fun e w' => e = .returned (.int .i64 ((L.length : Int) - (cutV L xs).length)) ∧ WAt B K w w' g n (cutV L xs) ∧ Kp K W w' := by
  have h1 := h.keep (.cells (xs.map KV).toArray 9)
  refine (at_cancel h1 hl _ c xs (lit_row W xs) (fun _ => by rintro _ _ ⟨⟩; exact .inl (by simp)) hx).mono fun e w' ⟨k1, k2, k3⟩ => ⟨k1, k2.drop fun k hk => by simp [hk], fun k hk => (k3 k (by simp [hk])).trans (Below.heap_alloc _ _ k (h.klt k hk))⟩
end
theorem out_cells {W : World} {base c : Nat} {A : Option Addr} {xs : List Key} (h : OutRow W base A c xs) (hne : xs ≠ []) : ∃ blk cs, A = some ⟨blk, 0, none⟩ ∧ base ≤ blk ∧ Has W blk 9 cs ∧ cs.length = c ∧ xs.length ≤ c ∧ c ≤ maxLen ∧ cs.take xs.length = xs.map KV ∧ ∀ (k : Nat) (hk : k < xs.length), W.cell? ⟨blk, k, none⟩ = some (KV xs[k]) := by
  rcases h with ⟨_, _, rfl⟩ | ⟨blk, cs, hA, h1, h2, h3, h4, h5, h6⟩
  · exact absurd rfl hne
  · exact ⟨blk, cs, hA, h1, h2, h6, h4, h5, h3, fun k hk => cell_str h2 h3 k hk⟩
def Wh.ka : Key := ⟨[97], by decide⟩
def Wh.kb : Key := ⟨[98], by decide⟩
def Wh.kc : Key := ⟨[99], by decide⟩
def Wh.kx : Key := ⟨[120], by decide⟩
set_option maxHeartbeats 4000000 in
theorem awake_any (w : World) : Calls Try.prog 6 #[] w fun e w' => e = .returned (.bool true) ∧ Fr w.heap.size [] w w' := by
  go_enter Try.func6, Try.ntmps6
  go_upto_region 2 with (go_at_call 7; (refine (at_new w).mono ?_); rintro e w1 ⟨rfl, h1⟩)
  go_upto_region 3 with (go_at_call 13; (refine (at_set_lit h1 5 [ka, kb] 2 (by decide) (by decide)).mono ?_); rintro e w2 ⟨rfl, h2, -⟩)
  go_upto_region 4 with (go_at_call 13; (refine (at_set_lit h2 3 [kc] 1 (by decide) (by decide)).mono ?_); rintro e w3 ⟨rfl, h3, -⟩)
  go_upto_region 5 with (go_at_call 13; (refine (at_set_lit h3 7 [ka] 1 (by decide) (by decide)).mono ?_); rintro e w4 ⟨rfl, h4, -⟩)
  have e4 : setV 7 (setV 3 (setV 5 [] [ka, kb]) [kc]) [ka] = [(kb, 5), (kc, 3), (ka, 7)] := by decide
  rw [e4] at h4
  have e5 : nextR [(kb, (5 : Int)), (kc, 3), (ka, 7)] = 3 := by decide
  have e6 : dueR 5 [(kb, (5 : Int)), (kc, 3), (ka, 7)].length [(kb, 5), (kc, 3), (ka, 7)] = [kc, kb] := by decide
  have e7 : cutV [(kb, (5 : Int)), (kc, 3), (ka, 7)] [kc, kb] = [(ka, 7)] := by decide
  have e8 : cutV [(ka, (7 : Int))] [ka, kx] = [] := by decide
  have c5 := at_next h4 (by decide)
  rw [e5] at c5
  go_upto_region 6 with (go_at_call 15; (refine c5.mono ?_); rintro e w5 ⟨rfl, h5, -⟩)
  have c6 := at_due h5 (by decide) 5
  rw [e6, e7] at c6
  go_upto_region 7 with (go_at_call 10; (refine c6.mono ?_); rintro e w6 ⟨A, c, rfl, o6, h6, -⟩)
  obtain ⟨blk, cs, rfl, r1, r2, r3, r4, r5, r6, r7⟩ := out_cells o6 (by simp)
  have c7 := at_at h6 ka
  go_upto_region 8 with (go_at_call 18; (refine c7.mono ?_); rintro e w7 ⟨rfl, h7, p7⟩)
  have t0 : w7.cell? ⟨blk, 0, none⟩ = some (.string ⟨#[99]⟩) := p7.cell (by simp [rowB]) (r7 0 (by decide))
  have t1 : w7.cell? ⟨blk, 1, none⟩ = some (.string ⟨#[98]⟩) := p7.cell (by simp [rowB]) (r7 1 (by decide))
  have c8 := at_cancel_lit h7 [ka, kx] 2 (by decide) (by decide)
  rw [e8] at c8
  go_wp2_with (first
    | (go_at_call 17; (refine (at_len h8).mono ?_); rintro e w9 ⟨rfl, rfl⟩)
    | (go_at_call 9; (refine c8.mono ?_); rintro e w8 ⟨rfl, h8, -⟩))
  go_ret
  exact ⟨rfl, h8.frame⟩
end Go.Proofs.Ytkclpkepmckjgaa
