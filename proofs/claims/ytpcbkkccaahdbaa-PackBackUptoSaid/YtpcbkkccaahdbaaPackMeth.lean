/- The writer's exported methods; one thing at a time. -/
import Derived.Test.YtpcbkkccaahdbaaPackEach
namespace Go.Proofs.Ytpcbkkccaahdbaa
open Go.RowKit
open Pk
theorem WFr.alloc {b : Nat} {a w : World} (h : WFr b a w) (hb : b ≤ w.heap.size) (o : Obj) : WFr b a (w.alloc o) := ⟨h.below.alloc hb o, h.kept.alloc o⟩
theorem Bld.alloc {T : TypeId} {b : Nat} {l : List UInt8} {w : World} (h : Bld T b l w) (o : Obj) : Bld T b l (w.alloc o) :=
  h.fr (B := w.heap.size) (S := []) ((Fr.refl _ _ _).alloc (Nat.le_refl _) _) (Nat.le_refl _) (by simp)
theorem row_new (w : World) (b : Nat) (t : TypeId) (vs : List Value) (hb : b < w.heap.size) (ht : t ≠ 5) : Row (w.alloc (.cells vs.toArray t)) b (some ⟨w.heap.size, 0, none⟩) vs := by
  refine .inr ⟨w.heap.size, 0, rfl, fun j v hv => ?_, .inr ⟨by omega, _, t, _, heap_alloc_new w _, ht⟩⟩
  rw [(Has.new w t vs).cell, Nat.zero_add]
  exact hv
set_option maxHeartbeats 1000000 in
set_option maxRecDepth 100000 in
theorem wNum_any (b : Nat) (l : List UInt8) (A : Option Addr) (c : Nat) (w : World) (ns : List Nat) (h : Bld 32 b l w) (hr : Row w b A (ns.map (fun n : Nat => Value.int .u64 (n : Int)))) (hn : ∀ n ∈ ns, n < 18446744073709551616)
    (hN : ns.length ≤ 140737488355328) (hlen : l.length + (ns.flatMap numB).length + 20 ≤ 140737488355328) :
    Calls Try.prog 11 #[.pointer (some ⟨b, 0, none⟩), .slice A ns.length c] w fun e w' => e = .returned (.pointer (some ⟨b, 0, none⟩)) ∧ Bld 32 b (l ++ ns.flatMap numB) w' ∧ WFr b w w' := by
  go_enter Try.func11, Try.ntmps11
  go_wp2_with (go_at_call 31; (refine (eachU_any b l A c w ns h hr hn hN hlen).mono ?_); rintro e w1 ⟨rfl, h1, hf1⟩)
  go_ret
  exact ⟨rfl, h1, hf1⟩
set_option maxHeartbeats 1000000 in
set_option maxRecDepth 100000 in
theorem wInt_any (b : Nat) (l : List UInt8) (A : Option Addr) (c : Nat) (w : World) (ns : List Int) (h : Bld 32 b l w) (hr : Row w b A (ns.map (fun n : Int => Value.int .i64 n))) (hn : ∀ n ∈ ns, -9223372036854775808 ≤ n ∧ n ≤ 9223372036854775807)
    (hN : ns.length ≤ 140737488355328) (hlen : l.length + (ns.flatMap intB).length + 20 ≤ 140737488355328) :
    Calls Try.prog 25 #[.pointer (some ⟨b, 0, none⟩), .slice A ns.length c] w fun e w' => e = .returned (.pointer (some ⟨b, 0, none⟩)) ∧ Bld 32 b (l ++ ns.flatMap intB) w' ∧ WFr b w w' := by
  go_enter Try.func25, Try.ntmps25
  go_wp2_with (go_at_call 44; (refine (eachI_any b l A c w ns h hr hn hN hlen).mono ?_); rintro e w1 ⟨rfl, h1, hf1⟩)
  go_ret
  exact ⟨rfl, h1, hf1⟩
set_option maxHeartbeats 1000000 in
set_option maxRecDepth 100000 in
theorem wText_any (b : Nat) (l : List UInt8) (A : Option Addr) (c : Nat) (w : World) (ns : List ByteArray) (h : Bld 32 b l w) (hr : Row w b A (ns.map (fun n : ByteArray => Value.string n))) (hn : ∀ n ∈ ns, n.size ≤ n.size)
    (hN : ns.length ≤ 140737488355328) (hlen : l.length + (ns.flatMap (fun s : ByteArray => textB s.data.toList)).length + 20 ≤ 140737488355328) :
    Calls Try.prog 12 #[.pointer (some ⟨b, 0, none⟩), .slice A ns.length c] w fun e w' => e = .returned (.pointer (some ⟨b, 0, none⟩)) ∧ Bld 32 b (l ++ ns.flatMap (fun s : ByteArray => textB s.data.toList)) w' ∧ WFr b w w' := by
  go_enter Try.func12, Try.ntmps12
  go_wp2_with (go_at_call 33; (refine (eachT_any b l A c w ns h hr hn hN hlen).mono ?_); rintro e w1 ⟨rfl, h1, hf1⟩)
  go_ret
  exact ⟨rfl, h1, hf1⟩
set_option maxHeartbeats 1000000 in
set_option maxRecDepth 100000 in
theorem wRaw_any (b : Nat) (l : List UInt8) (A : Option Addr) (c : Nat) (w : World) (ns : List ByteArray) (h : Bld 32 b l w) (hr : Row w b A (ns.map (fun n : ByteArray => Value.string n))) (hn : ∀ n ∈ ns, n.size ≤ n.size)
    (hN : ns.length ≤ 140737488355328) (hlen : l.length + (ns.flatMap (fun s : ByteArray => s.data.toList)).length + 20 ≤ 140737488355328) :
    Calls Try.prog 28 #[.pointer (some ⟨b, 0, none⟩), .slice A ns.length c] w fun e w' => e = .returned (.pointer (some ⟨b, 0, none⟩)) ∧ Bld 32 b (l ++ ns.flatMap (fun s : ByteArray => s.data.toList)) w' ∧ WFr b w w' := by
  go_enter Try.func28, Try.ntmps28
  go_wp2_with (go_at_call 33; (refine (eachR_any b l A c w ns h hr hn hN hlen).mono ?_); rintro e w1 ⟨rfl, h1, hf1⟩)
  go_ret
  exact ⟨rfl, h1, hf1⟩
set_option maxHeartbeats 1000000 in
set_option maxRecDepth 100000 in
theorem wFlag_any (b : Nat) (l : List UInt8) (A : Option Addr) (c : Nat) (w : World) (ns : List Bool) (h : Bld 32 b l w) (hr : Row w b A (ns.map (fun n : Bool => Value.bool n))) (hn : ∀ n ∈ ns, n = n)
    (hN : ns.length ≤ 140737488355328) (hlen : l.length + (ns.flatMap flagB).length + 20 ≤ 140737488355328) :
    Calls Try.prog 26 #[.pointer (some ⟨b, 0, none⟩), .slice A ns.length c] w fun e w' => e = .returned (.pointer (some ⟨b, 0, none⟩)) ∧ Bld 32 b (l ++ ns.flatMap flagB) w' ∧ WFr b w w' := by
  go_enter Try.func26, Try.ntmps26
  go_wp2_with (go_at_call 46; (refine (eachB_any b l A c w ns h hr hn hN hlen).mono ?_); rintro e w1 ⟨rfl, h1, hf1⟩)
  go_ret
  exact ⟨rfl, h1, hf1⟩
theorem wNum_one (b : Nat) (l : List UInt8) (w : World) (x : Nat) (g : Nat) (hg : g = w.heap.size) (h : Bld 32 b l w) (hx : x < 18446744073709551616) (hlen : l.length + (numB x).length + 20 ≤ 140737488355328) :
    Calls Try.prog 11 #[.pointer (some ⟨b, 0, none⟩), .slice (some ⟨g, 0, none⟩) 1 1] (w.alloc (.cells #[Value.int .u64 (x : Int)] 34)) fun e w' => e = .returned (.pointer (some ⟨b, 0, none⟩)) ∧ Bld 32 b (l ++ numB x) w' ∧ WFr b w w' := by
  subst hg
  refine (wNum_any b l (some ⟨w.heap.size, 0, none⟩) 1 _ [x] (h.alloc _) (row_new w b 34 [Value.int .u64 (x : Int)] h.lt (by decide)) (fun n hn => by obtain rfl := List.mem_singleton.1 hn; exact hx) (by simp) (by simpa using hlen)).mono ?_
  rintro e w' ⟨rfl, h1, hf⟩
  exact ⟨rfl, by simpa using h1, ((WFr.refl b w).alloc (Nat.le_of_lt h.lt) _).trans hf⟩
theorem wInt_one (b : Nat) (l : List UInt8) (w : World) (x : Int) (g : Nat) (hg : g = w.heap.size) (h : Bld 32 b l w) (hx : -9223372036854775808 ≤ x ∧ x ≤ 9223372036854775807) (hlen : l.length + (intB x).length + 20 ≤ 140737488355328) :
    Calls Try.prog 25 #[.pointer (some ⟨b, 0, none⟩), .slice (some ⟨g, 0, none⟩) 1 1] (w.alloc (.cells #[Value.int .i64 x] 2)) fun e w' => e = .returned (.pointer (some ⟨b, 0, none⟩)) ∧ Bld 32 b (l ++ intB x) w' ∧ WFr b w w' := by
  subst hg
  refine (wInt_any b l (some ⟨w.heap.size, 0, none⟩) 1 _ [x] (h.alloc _) (row_new w b 2 [Value.int .i64 x] h.lt (by decide)) (fun n hn => by obtain rfl := List.mem_singleton.1 hn; exact hx) (by simp) (by simpa using hlen)).mono ?_
  rintro e w' ⟨rfl, h1, hf⟩
  exact ⟨rfl, by simpa using h1, ((WFr.refl b w).alloc (Nat.le_of_lt h.lt) _).trans hf⟩
theorem wText_one (b : Nat) (l : List UInt8) (w : World) (x : ByteArray) (g : Nat) (hg : g = w.heap.size) (h : Bld 32 b l w) (hx : x.size ≤ x.size) (hlen : l.length + (textB x.data.toList).length + 20 ≤ 140737488355328) :
    Calls Try.prog 12 #[.pointer (some ⟨b, 0, none⟩), .slice (some ⟨g, 0, none⟩) 1 1] (w.alloc (.cells #[Value.string x] 9)) fun e w' => e = .returned (.pointer (some ⟨b, 0, none⟩)) ∧ Bld 32 b (l ++ textB x.data.toList) w' ∧ WFr b w w' := by
  subst hg
  refine (wText_any b l (some ⟨w.heap.size, 0, none⟩) 1 _ [x] (h.alloc _) (row_new w b 9 [Value.string x] h.lt (by decide)) (fun n hn => by obtain rfl := List.mem_singleton.1 hn; exact hx) (by simp) (by simpa using hlen)).mono ?_
  rintro e w' ⟨rfl, h1, hf⟩
  exact ⟨rfl, by simpa using h1, ((WFr.refl b w).alloc (Nat.le_of_lt h.lt) _).trans hf⟩
theorem wRaw_one (b : Nat) (l : List UInt8) (w : World) (x : ByteArray) (g : Nat) (hg : g = w.heap.size) (h : Bld 32 b l w) (hx : x.size ≤ x.size) (hlen : l.length + (x.data.toList).length + 20 ≤ 140737488355328) :
    Calls Try.prog 28 #[.pointer (some ⟨b, 0, none⟩), .slice (some ⟨g, 0, none⟩) 1 1] (w.alloc (.cells #[Value.string x] 9)) fun e w' => e = .returned (.pointer (some ⟨b, 0, none⟩)) ∧ Bld 32 b (l ++ x.data.toList) w' ∧ WFr b w w' := by
  subst hg
  refine (wRaw_any b l (some ⟨w.heap.size, 0, none⟩) 1 _ [x] (h.alloc _) (row_new w b 9 [Value.string x] h.lt (by decide)) (fun n hn => by obtain rfl := List.mem_singleton.1 hn; exact hx) (by simp) (by simpa using hlen)).mono ?_
  rintro e w' ⟨rfl, h1, hf⟩
  exact ⟨rfl, by simpa using h1, ((WFr.refl b w).alloc (Nat.le_of_lt h.lt) _).trans hf⟩
theorem wFlag_one (b : Nat) (l : List UInt8) (w : World) (x : Bool) (g : Nat) (hg : g = w.heap.size) (h : Bld 32 b l w) (hx : x = x) (hlen : l.length + (flagB x).length + 20 ≤ 140737488355328) :
    Calls Try.prog 26 #[.pointer (some ⟨b, 0, none⟩), .slice (some ⟨g, 0, none⟩) 1 1] (w.alloc (.cells #[Value.bool x] 4)) fun e w' => e = .returned (.pointer (some ⟨b, 0, none⟩)) ∧ Bld 32 b (l ++ flagB x) w' ∧ WFr b w w' := by
  subst hg
  refine (wFlag_any b l (some ⟨w.heap.size, 0, none⟩) 1 _ [x] (h.alloc _) (row_new w b 4 [Value.bool x] h.lt (by decide)) (fun n hn => by obtain rfl := List.mem_singleton.1 hn; exact hx) (by simp) (by simpa using hlen)).mono ?_
  rintro e w' ⟨rfl, h1, hf⟩
  exact ⟨rfl, by simpa using h1, ((WFr.refl b w).alloc (Nat.le_of_lt h.lt) _).trans hf⟩
set_option maxHeartbeats 1000000 in
set_option maxRecDepth 100000 in
theorem wBytes_any (b : Nat) (l : List UInt8) (w : World) (h : Bld 32 b l w) :
    Calls Try.prog 15 #[.pointer (some ⟨b, 0, none⟩)] w fun e w' => e = .returned (.string ⟨l.toArray⟩) ∧ Bld 32 b l w' ∧ WFr b w w' := by
  go_enter Try.func15, Try.ntmps15
  go_wp2_with (go_at_call 35; (refine (bstr_any btW b l w h).mono ?_); rintro e w1 ⟨rfl, h1, hf1⟩)
  go_ret
  exact ⟨rfl, h1, hf1⟩
end Go.Proofs.Ytpcbkkccaahdbaa
