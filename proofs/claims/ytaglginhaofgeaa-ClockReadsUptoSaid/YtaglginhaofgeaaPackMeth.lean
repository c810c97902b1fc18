/- The writer's exported methods; one thing at a time. -/
import Derived.Test.YtaglginhaofgeaaPackEach
-- cut
namespace Go.Proofs.Ytaglginhaofgeaa
open Go.RowKit
open Pk
theorem WFr.alloc {b : Nat} {a w : World} (h : WFr b a w) (hb : b ≤ w.heap.size) (o : Obj) : WFr b a (w.alloc o) := ⟨h.below.alloc hb o, h.kept.alloc o⟩
theorem Bld.alloc {T : TypeId} {b : Nat} {l : List UInt8} {w : World} (h : Bld T b l w) (o : Obj) : Bld T b l (w.alloc o) :=
  h.fr (B := w.heap.size) (S := []) ((Fr.refl _ _ _).alloc (Nat.le_refl _) _) (Nat.le_refl _) (by simp)
theorem row_new (w : World) (b : Nat) (t : TypeId) (vs : List Value) (hb : b < w.heap.size) (ht : t ≠ 5) : Row (w.alloc (.cells vs.toArray t)) b (some ⟨w.heap.size, 0, none⟩) vs := by
  refine .inr ⟨w.heap.size, 0, rfl, fun j v hv => ?_, .inr ⟨by omega, _, t, _, heap_alloc_new w _, ht⟩⟩
  rw [(Has.new w t vs).cell, Nat.zero_add]
  exact hv
set_option maxHeartbeats 1000000 in
set_option maxRecDepth 100000 in
theorem wNum_any (b : Nat) (l : List UInt8) (A : Option Addr) (c : Nat) (w : World) (ns : List Nat) (h : Bld 84 b l w) (hr : Row w b A (ns.map (fun n : Nat => Value.int .u64 (n : Int)))) (hn : ∀ n ∈ ns, n < 18446744073709551616)
    (hN : ns.length ≤ 140737488355328) (hlen : l.length + (ns.flatMap numB).length + 20 ≤ 140737488355328) :
    Calls Try.prog 55 #[.pointer (some ⟨b, 0, none⟩), .slice A ns.length c] w fun e w' => e = .returned (.pointer (some ⟨b, 0, none⟩)) ∧ Bld 84 b (l ++ ns.flatMap numB) w' ∧ WFr b w w' := by
  go_enter Try.func55, Try.ntmps55
  go_wp2_with (go_at_call 71; (refine (eachU_any b l A c w ns h hr hn hN hlen).mono ?_); rintro e w1 ⟨rfl, h1, hf1⟩)
  go_ret
  exact ⟨rfl, h1, hf1⟩
theorem wNum_one (b : Nat) (l : List UInt8) (w : World) (x : Nat) (g : Nat) (hg : g = w.heap.size) (h : Bld 84 b l w) (hx : x < 18446744073709551616) (hlen : l.length + (numB x).length + 20 ≤ 140737488355328) :
    Calls Try.prog 55 #[.pointer (some ⟨b, 0, none⟩), .slice (some ⟨g, 0, none⟩) 1 1] (w.alloc (.cells #[Value.int .u64 (x : Int)] 25)) fun e w' => e = .returned (.pointer (some ⟨b, 0, none⟩)) ∧ Bld 84 b (l ++ numB x) w' ∧ WFr b w w' := by
  subst hg
  refine (wNum_any b l (some ⟨w.heap.size, 0, none⟩) 1 _ [x] (h.alloc _) (row_new w b 25 [Value.int .u64 (x : Int)] h.lt (by decide)) (fun n hn => by obtain rfl := List.mem_singleton.1 hn; exact hx) (by simp) (by simpa using hlen)).mono ?_
  rintro e w' ⟨rfl, h1, hf⟩
  exact ⟨rfl, by simpa using h1, ((WFr.refl b w).alloc (Nat.le_of_lt h.lt) _).trans hf⟩
set_option maxHeartbeats 1000000 in
set_option maxRecDepth 100000 in
theorem wBytes_any (b : Nat) (l : List UInt8) (w : World) (h : Bld 84 b l w) :
    Calls Try.prog 56 #[.pointer (some ⟨b, 0, none⟩)] w fun e w' => e = .returned (.string ⟨l.toArray⟩) ∧ Bld 84 b l w' ∧ WFr b w w' := by
  go_enter Try.func56, Try.ntmps56
  go_wp2_with (go_at_call 58; (refine (bstr_any btW b l w h).mono ?_); rintro e w1 ⟨rfl, h1, hf1⟩)
  go_ret
  exact ⟨rfl, h1, hf1⟩
end Go.Proofs.Ytaglginhaofgeaa
