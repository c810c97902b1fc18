/- Tallies: what stands in memory; find, prime, count. -/
import Derived.Test.YtcemlacfldonlaaProg
import Derived.Test.YtcemlacfldonlaaSlices
import Derived.Test.YtcemlacfldonlaaClass
import Derived.Lib.Hide
import Derived.Outline
import Derived.Deep.Cut
import Derived.Deep.RegionWith
import Derived.Shelf.Abstract
namespace Go.Proofs.Ytcemlacfldonlaa
open Go.RowKit
/-- A target that was asked. -/
structure Tg where
  node : Int
  home : Int
  said : Int
  cell : Option Nat
deriving Inhabited, DecidableEq
def pcV : Option Nat → Option Addr
  | none => none
  | some b => some ⟨b, 0, none⟩
def Tg.cells (t : Tg) : List Value := [.int .i64 t.node, .int .i64 t.home, .int .i64 t.said, .pointer (pcV t.cell)]
def Tg.val (t : Tg) : Value := .agg #[.int .i64 t.node, .int .i64 t.home, .int .i64 t.said, .pointer (pcV t.cell)]
theorem tg_cells {w : World} {N : Nat} {A : Option Addr} {us : List Tg} (h : ARow w N A (us.flatMap Tg.cells)) (k : Nat) (hk : k < us.length) : ∃ blk o, A = some ⟨blk, o, none⟩ ∧ blk < N ∧
    w.cell? ⟨blk, o + k * 4, none⟩ = some (.int .i64 us[k].node) ∧ w.cell? ⟨blk, o + k * 4 + 1, none⟩ = some (.int .i64 us[k].home) ∧ w.cell? ⟨blk, o + k * 4 + 2, none⟩ = some (.int .i64 us[k].said) ∧ w.cell? ⟨blk, o + k * 4 + 3, none⟩ = some (.pointer (pcV us[k].cell)) := by
  obtain ⟨blk, o, hA, hb, hc⟩ := h.at (c := 4) (fun _ => rfl) (by decide) k hk
  exact ⟨blk, o, hA, hb, hc 0 _ rfl, hc 1 _ rfl, hc 2 _ rfl, hc 3 _ rfl⟩
section
variable {w : World}
set_option maxHeartbeats 1000000 in
theorem findF_any (w : World) (x : Tg) (n : Int) (bx : Nat) (hb : w.cell? ⟨bx, 0, none⟩ = some (.int .i64 n)) (hl : bx < w.heap.size) : Calls Try.prog 22 #[x.val, .pointer (some ⟨bx, 0, none⟩)] w fun e w' => e = .returned (.bool (decide (x.node = n))) ∧ Fr w.heap.size [] w w' := by
  unfold Tg.val
  obtain ⟨p, hp⟩ : ∃ p, pcV x.cell = p := ⟨_, rfl⟩
  rw [hp]
  obtain ⟨b, hbb⟩ : ∃ b, decide (x.node = n) = b := ⟨_, rfl⟩
  have hb2 : (x.node == n) = b := by rw [← hbb]; rfl
  rw [hbb]
  have f1 := (Fr.refl w.heap.size [] w).alloc (Nat.le_refl _) (.cells #[.int .i64 x.node, .int .i64 x.home, .int .i64 x.said, .pointer p] 62)
  have c1 := (f1.cell (p := ⟨bx, 0, none⟩) hl (by simp)).trans hb
  have c2 := (Has.new w 62 [.int .i64 x.node, .int .i64 x.home, .int .i64 x.said, .pointer p]).cell 0
  go_enter Try.func22, Try.ntmps22
  go_wp2
  go_ret
  exact ⟨rfl, f1⟩
set_option maxHeartbeats 1000000 in
theorem prime_any (w : World) (x : Tg) : Calls Try.prog 23 #[x.val] w fun e w' => e = .returned (.bool (decide (x.node = x.home))) ∧ Fr w.heap.size [] w w' := by
  unfold Tg.val
  obtain ⟨p, hp⟩ : ∃ p, pcV x.cell = p := ⟨_, rfl⟩
  rw [hp]
  obtain ⟨b, hbb⟩ : ∃ b, decide (x.node = x.home) = b := ⟨_, rfl⟩
  have hb2 : (x.node == x.home) = b := by rw [← hbb]; rfl
  rw [hbb]
  have f1 := (Fr.refl w.heap.size [] w).alloc (Nat.le_refl _) (.cells #[.int .i64 x.node, .int .i64 x.home, .int .i64 x.said, .pointer p] 62)
  have c2 := (Has.new w 62 [.int .i64 x.node, .int .i64 x.home, .int .i64 x.said, .pointer p]).cell 0
  have c3 := (Has.new w 62 [.int .i64 x.node, .int .i64 x.home, .int .i64 x.said, .pointer p]).cell 1
  go_enter Try.func23, Try.ntmps23
  go_wp2
  go_ret
  exact ⟨rfl, f1⟩
end
end Go.Proofs.Ytcemlacfldonlaa
