/- A thing is taken up by a reader. -/
import Derived.Test.YtpcbkkccaahdbaaPackLaw
namespace Go.Proofs.Ytpcbkkccaahdbaa
open Go.RowKit
open Pk
theorem RdL.fr {w w' : World} {b B : Nat} {S : List Nat} {l : List UInt8} {e : Int} (h : RdL w b l e) (hf : Fr B S w w') (hb : b < B) (hs : b ∉ S) : RdL w' b l e := Has.fr h hf hb hs
theorem RdL.alloc {w : World} {b : Nat} {l : List UInt8} {e : Int} (h : RdL w b l e) (o : Obj) : RdL (w.alloc o) b l e := Has.alloc h o
theorem RdL.far {w : World} {b : Nat} {l : List UInt8} {e : Int} (h : RdL w b l e) {p : Addr} (hp : b ≠ p.block) (u : Value) : RdL (w.setCell p u) b l e := Has.far h hp u
theorem RdL.lt {w : World} {b : Nat} {l : List UInt8} {e : Int} (h : RdL w b l e) : b < w.heap.size := Has.lt h
theorem Has.cells4 {w : World} {g : Nat} {t : TypeId} {x0 x1 x2 x3 : Value} (h : Has w g t [x0, x1, x2, x3]) :
    w.cell? ⟨g, 0, none⟩ = some x0 ∧ w.cell? ⟨g, 1, none⟩ = some x1 ∧ w.cell? ⟨g, 2, none⟩ = some x2 ∧ w.cell? ⟨g, 3, none⟩ = some x3 ∧ w.frozen? ⟨g, 0, none⟩ = false ∧ w.frozen? ⟨g, 1, none⟩ = false ∧ w.frozen? ⟨g, 2, none⟩ = false ∧ w.frozen? ⟨g, 3, none⟩ = false :=
  ⟨h.cell 0, h.cell 1, h.cell 2, h.cell 3, h.frozen 0, h.frozen 1, h.frozen 2, h.frozen 3⟩
theorem wrap_toNat (x : Int) : ((x % 18446744073709551616).toNat : Int) = IntKind.u64.wrap x := by rw [IntKind.wrap_u64]; omega
theorem manyE_le2 (l : List UInt8) (e ls : Int) : (manyE l e ls).1 ≤ l.length := by
  have h := numE_len l e
  unfold manyE
  split
  · split
    · exact Nat.zero_le _
    · rename_i h1
      exact Nat.le_trans (Nat.not_lt.1 h1) (Nat.le_trans (Nat.div_le_self _ _) h)
  · exact Nat.zero_le _
set_option maxHeartbeats 1000000 in
set_option maxRecDepth 100000 in
theorem take_1 (w : World) (b : Nat) (l : List UInt8) (e ls : Int) (n : Nat) (s : ByteArray) (h : RdL w b l e) :
    Calls Try.prog 22 #[.pointer (some ⟨b, 0, none⟩), .agg #[.int .i64 1, .int .i64 ls, .int .u64 n, .string s]] w fun r w' => r = .returned (.agg #[.int .i64 1, .int .i64 ls, .int .u64 (((intE l e).1 % 18446744073709551616).toNat : Int), .string (ByteArray.empty)]) ∧ RdL w' b (intE l e).2.1 (intE l e).2.2 ∧ Fr w.heap.size [b] w w' := by
  have hlt := h.lt
  obtain ⟨x, hx⟩ : ∃ x, x = (intE l e).1 := ⟨_, rfl⟩
  have hi := fun W (hR : RdL W b l e) => intE_any W b l e hR
  rw [← hx] at hi
  have HX := Lib.hid hx
  clear hx
  go_enter Try.func22, Try.ntmps22
  go_wp2_with (go_at_call 41; (refine (hi _ (((h.alloc _).alloc _).alloc _)).mono ?_); rintro e w1 ⟨rfl, h1, o1⟩; have hO := (Has.new' ((w.alloc _).alloc _) 36 [.int .i64 1, .int .i64 ls, .int .u64 0, .string ByteArray.empty] (g := w.heap.size + 1 + 1) (by simp)).one o1 (by omega); have hR := ((Has.new' (w.alloc _) 36 [.int .i64 0, .int .i64 0, .int .u64 0, .string ByteArray.empty] (g := w.heap.size + 1) (by simp)).alloc _).one o1 (by omega); obtain ⟨c0, c1, c2, c3, z0, z1, z2, z3⟩ := hO.cells4; obtain ⟨d0, d1, d2, d3, y0, y1, y2, y3⟩ := hR.cells4)
  have H := (((((hR.far (p := ⟨w.heap.size + 1 + 1, 2, none⟩) (by simp) (.int .u64 (IntKind.u64.wrap x))).set 0 (.int .i64 1)).set 1 (.int .i64 ls)).set 2 (.int .u64 (IntKind.u64.wrap x))).set 3 (.string (ByteArray.empty)))
  obtain ⟨e0, e1, e2, e3, _⟩ := H.cells4
  have hF0 := ((((Fr.refl w.heap.size [b] w).alloc (Nat.le_refl _) (.cells #[.int .i64 1, .int .i64 ls, .int .u64 (n : Int), .string s] 36)).alloc (by simp) (.cells #[.int .i64 0, .int .i64 0, .int .u64 0, .string ByteArray.empty] 36)).alloc (by simp; omega) (.cells #[.int .i64 1, .int .i64 ls, .int .u64 0, .string ByteArray.empty] 36)).one o1 (.inl (by simp))
  refine bodyPost_ret (v := .agg #[.int .i64 1, .int .i64 ls, .int .u64 (IntKind.u64.wrap x), .string (ByteArray.empty)]) (by simp [results, Try.results22, go_sem, e0, e1, e2, e3]) rfl ⟨by rw [← HX.out, wrap_toNat], ?_, ?_⟩
  · exact ((((h1.far (by simp; omega) _).far (by simp; omega) _).far (by simp; omega) _).far (by simp; omega) _).far (by simp; omega) _
  · exact (((((hF0).setCell (.inr (by first | (simp; done) | (simp; omega))) _).setCell (.inr (by first | (simp; done) | (simp; omega))) _).setCell (.inr (by first | (simp; done) | (simp; omega))) _).setCell (.inr (by first | (simp; done) | (simp; omega))) _).setCell (.inr (by first | (simp; done) | (simp; omega))) _
set_option maxHeartbeats 1000000 in
set_option maxRecDepth 100000 in
theorem take_3 (w : World) (b : Nat) (l : List UInt8) (e ls : Int) (n : Nat) (s : ByteArray) (h : RdL w b l e) (hl : l.length ≤ 4611686018427387904) :
    Calls Try.prog 22 #[.pointer (some ⟨b, 0, none⟩), .agg #[.int .i64 3, .int .i64 ls, .int .u64 n, .string s]] w fun r w' => r = .returned (.agg #[.int .i64 3, .int .i64 ls, .int .u64 0, .string (mkS (textE l e).1)]) ∧ RdL w' b (textE l e).2.1 (textE l e).2.2 ∧ Fr w.heap.size [b] w w' := by
  have hlt := h.lt
  go_enter Try.func22, Try.ntmps22
  go_wp2_with (go_at_call 43; (refine (textE_any _ b l e (((h.alloc _).alloc _).alloc _) hl).mono ?_); rintro e w1 ⟨rfl, h1, o1⟩; have hO := (Has.new' ((w.alloc _).alloc _) 36 [.int .i64 3, .int .i64 ls, .int .u64 0, .string ByteArray.empty] (g := w.heap.size + 1 + 1) (by simp)).one o1 (by omega); have hR := ((Has.new' (w.alloc _) 36 [.int .i64 0, .int .i64 0, .int .u64 0, .string ByteArray.empty] (g := w.heap.size + 1) (by simp)).alloc _).one o1 (by omega); obtain ⟨c0, c1, c2, c3, z0, z1, z2, z3⟩ := hO.cells4; obtain ⟨d0, d1, d2, d3, y0, y1, y2, y3⟩ := hR.cells4)
  have H := (((((hR.far (p := ⟨w.heap.size + 1 + 1, 3, none⟩) (by simp) (.string (mkS (textE l e).1))).set 0 (.int .i64 3)).set 1 (.int .i64 ls)).set 2 (.int .u64 0)).set 3 (.string (mkS (textE l e).1)))
  obtain ⟨e0, e1, e2, e3, _⟩ := H.cells4
  have hF0 := ((((Fr.refl w.heap.size [b] w).alloc (Nat.le_refl _) (.cells #[.int .i64 3, .int .i64 ls, .int .u64 (n : Int), .string s] 36)).alloc (by simp) (.cells #[.int .i64 0, .int .i64 0, .int .u64 0, .string ByteArray.empty] 36)).alloc (by simp; omega) (.cells #[.int .i64 3, .int .i64 ls, .int .u64 0, .string ByteArray.empty] 36)).one o1 (.inl (by simp))
  refine bodyPost_ret (v := .agg #[.int .i64 3, .int .i64 ls, .int .u64 0, .string (mkS (textE l e).1)]) (by simp [results, Try.results22, go_sem, e0, e1, e2, e3]) rfl ⟨rfl, ?_, ?_⟩
  · exact ((((h1.far (by simp; omega) _).far (by simp; omega) _).far (by simp; omega) _).far (by simp; omega) _).far (by simp; omega) _
  · exact (((((hF0).setCell (.inr (by first | (simp; done) | (simp; omega))) _).setCell (.inr (by first | (simp; done) | (simp; omega))) _).setCell (.inr (by first | (simp; done) | (simp; omega))) _).setCell (.inr (by first | (simp; done) | (simp; omega))) _).setCell (.inr (by first | (simp; done) | (simp; omega))) _
set_option maxHeartbeats 1000000 in
set_option maxRecDepth 100000 in
theorem take_4 (w : World) (b : Nat) (l : List UInt8) (e ls : Int) (n : Nat) (s : ByteArray) (h : RdL w b l e) (hs : s.size ≤ 9223372036854775807) :
    Calls Try.prog 22 #[.pointer (some ⟨b, 0, none⟩), .agg #[.int .i64 4, .int .i64 ls, .int .u64 n, .string s]] w fun r w' => r = .returned (.agg #[.int .i64 4, .int .i64 ls, .int .u64 0, .string (mkS (rawE l e s.size).1)]) ∧ RdL w' b (rawE l e s.size).2.1 (rawE l e s.size).2.2 ∧ Fr w.heap.size [b] w w' := by
  have hlt := h.lt
  go_enter Try.func22, Try.ntmps22
  go_wp2_with (go_at_call 40; (refine (rawE_any _ b l e s.size (((h.alloc _).alloc _).alloc _) hs).mono ?_); rintro e w1 ⟨rfl, h1, o1⟩; have hO := (Has.new' ((w.alloc _).alloc _) 36 [.int .i64 4, .int .i64 ls, .int .u64 0, .string ByteArray.empty] (g := w.heap.size + 1 + 1) (by simp)).one o1 (by omega); have hR := ((Has.new' (w.alloc _) 36 [.int .i64 0, .int .i64 0, .int .u64 0, .string ByteArray.empty] (g := w.heap.size + 1) (by simp)).alloc _).one o1 (by omega); obtain ⟨c0, c1, c2, c3, z0, z1, z2, z3⟩ := hO.cells4; obtain ⟨d0, d1, d2, d3, y0, y1, y2, y3⟩ := hR.cells4)
  have H := (((((hR.far (p := ⟨w.heap.size + 1 + 1, 3, none⟩) (by simp) (.string (mkS (rawE l e s.size).1))).set 0 (.int .i64 4)).set 1 (.int .i64 ls)).set 2 (.int .u64 0)).set 3 (.string (mkS (rawE l e s.size).1)))
  obtain ⟨e0, e1, e2, e3, _⟩ := H.cells4
  have hF0 := ((((Fr.refl w.heap.size [b] w).alloc (Nat.le_refl _) (.cells #[.int .i64 4, .int .i64 ls, .int .u64 (n : Int), .string s] 36)).alloc (by simp) (.cells #[.int .i64 0, .int .i64 0, .int .u64 0, .string ByteArray.empty] 36)).alloc (by simp; omega) (.cells #[.int .i64 4, .int .i64 ls, .int .u64 0, .string ByteArray.empty] 36)).one o1 (.inl (by simp))
  refine bodyPost_ret (v := .agg #[.int .i64 4, .int .i64 ls, .int .u64 0, .string (mkS (rawE l e s.size).1)]) (by simp [results, Try.results22, go_sem, e0, e1, e2, e3]) rfl ⟨rfl, ?_, ?_⟩
  · exact ((((h1.far (by simp; omega) _).far (by simp; omega) _).far (by simp; omega) _).far (by simp; omega) _).far (by simp; omega) _
  · exact (((((hF0).setCell (.inr (by first | (simp; done) | (simp; omega))) _).setCell (.inr (by first | (simp; done) | (simp; omega))) _).setCell (.inr (by first | (simp; done) | (simp; omega))) _).setCell (.inr (by first | (simp; done) | (simp; omega))) _).setCell (.inr (by first | (simp; done) | (simp; omega))) _
set_option maxHeartbeats 1000000 in
set_option maxRecDepth 100000 in
theorem take_5 (w : World) (b : Nat) (l : List UInt8) (e ls : Int) (n : Nat) (s : ByteArray) (h : RdL w b l e) (hl : l.length ≤ 4611686018427387904) (hs0 : -9223372036854775808 ≤ ls) (hs1 : ls ≤ 9223372036854775807) :
    Calls Try.prog 22 #[.pointer (some ⟨b, 0, none⟩), .agg #[.int .i64 5, .int .i64 ls, .int .u64 n, .string s]] w fun r w' => r = .returned (.agg #[.int .i64 5, .int .i64 ls, .int .u64 ((manyE l e ls).1 : Int), .string (ByteArray.empty)]) ∧ RdL w' b (manyE l e ls).2.1 (manyE l e ls).2.2 ∧ Fr w.heap.size [b] w w' := by
  have hlt := h.lt
  obtain ⟨x, hx⟩ : ∃ x, x = (manyE l e ls).1 := ⟨_, rfl⟩
  have hx2 : x ≤ 4611686018427387904 := by have := manyE_le2 l e ls; omega
  have hi := fun W (hR : RdL W b l e) => manyE_any W b l e ls hR hl hs0 hs1
  rw [← hx] at hi
  have HX := Lib.hid hx
  clear hx
  go_enter Try.func22, Try.ntmps22
  go_wp2_with (go_at_call 17; (refine (hi _ (((h.alloc _).alloc _).alloc _)).mono ?_); rintro e w1 ⟨rfl, h1, o1⟩; have hO := (Has.new' ((w.alloc _).alloc _) 36 [.int .i64 5, .int .i64 ls, .int .u64 0, .string ByteArray.empty] (g := w.heap.size + 1 + 1) (by simp)).one o1 (by omega); have hR := ((Has.new' (w.alloc _) 36 [.int .i64 0, .int .i64 0, .int .u64 0, .string ByteArray.empty] (g := w.heap.size + 1) (by simp)).alloc _).one o1 (by omega); obtain ⟨c0, c1, c2, c3, z0, z1, z2, z3⟩ := hO.cells4; obtain ⟨d0, d1, d2, d3, y0, y1, y2, y3⟩ := hR.cells4)
  have H := (((((hR.far (p := ⟨w.heap.size + 1 + 1, 2, none⟩) (by simp) (.int .u64 (x : Int))).set 0 (.int .i64 5)).set 1 (.int .i64 ls)).set 2 (.int .u64 (x : Int))).set 3 (.string (ByteArray.empty)))
  obtain ⟨e0, e1, e2, e3, _⟩ := H.cells4
  have hF0 := ((((Fr.refl w.heap.size [b] w).alloc (Nat.le_refl _) (.cells #[.int .i64 5, .int .i64 ls, .int .u64 (n : Int), .string s] 36)).alloc (by simp) (.cells #[.int .i64 0, .int .i64 0, .int .u64 0, .string ByteArray.empty] 36)).alloc (by simp; omega) (.cells #[.int .i64 5, .int .i64 ls, .int .u64 0, .string ByteArray.empty] 36)).one o1 (.inl (by simp))
  refine bodyPost_ret (v := .agg #[.int .i64 5, .int .i64 ls, .int .u64 (x : Int), .string (ByteArray.empty)]) (by simp [results, Try.results22, go_sem, e0, e1, e2, e3]) rfl ⟨by rw [← HX.out], ?_, ?_⟩
  · exact ((((h1.far (by simp; omega) _).far (by simp; omega) _).far (by simp; omega) _).far (by simp; omega) _).far (by simp; omega) _
  · exact (((((hF0).setCell (.inr (by first | (simp; done) | (simp; omega))) _).setCell (.inr (by first | (simp; done) | (simp; omega))) _).setCell (.inr (by first | (simp; done) | (simp; omega))) _).setCell (.inr (by first | (simp; done) | (simp; omega))) _).setCell (.inr (by first | (simp; done) | (simp; omega))) _
set_option maxHeartbeats 1000000 in
set_option maxRecDepth 100000 in
theorem take_6 (w : World) (b : Nat) (l : List UInt8) (e k ls : Int) (n : Nat) (s : ByteArray) (h : RdL w b l e) (k1 : k ≠ 1) (k2 : k ≠ 2) (k3 : k ≠ 3) (k4 : k ≠ 4) (k5 : k ≠ 5) :
    Calls Try.prog 22 #[.pointer (some ⟨b, 0, none⟩), .agg #[.int .i64 k, .int .i64 ls, .int .u64 n, .string s]] w fun r w' => r = .returned (.agg #[.int .i64 k, .int .i64 ls, .int .u64 ((numE l e).1 : Int), .string (ByteArray.empty)]) ∧ RdL w' b (numE l e).2.1 (numE l e).2.2 ∧ Fr w.heap.size [b] w w' := by
  have hlt := h.lt
  have b1 := beq_eq_false_iff_ne.2 k1
  have b2 := beq_eq_false_iff_ne.2 k2
  have b3 := beq_eq_false_iff_ne.2 k3
  have b4 := beq_eq_false_iff_ne.2 k4
  have b5 := beq_eq_false_iff_ne.2 k5
  go_enter Try.func22, Try.ntmps22
  go_wp2_with (go_at_call 27; (refine (numE_any _ b l e (((h.alloc _).alloc _).alloc _)).mono ?_); rintro e w1 ⟨rfl, h1, o1⟩; have hO := (Has.new' ((w.alloc _).alloc _) 36 [.int .i64 k, .int .i64 ls, .int .u64 0, .string ByteArray.empty] (g := w.heap.size + 1 + 1) (by simp)).one o1 (by omega); have hR := ((Has.new' (w.alloc _) 36 [.int .i64 0, .int .i64 0, .int .u64 0, .string ByteArray.empty] (g := w.heap.size + 1) (by simp)).alloc _).one o1 (by omega); obtain ⟨c0, c1, c2, c3, z0, z1, z2, z3⟩ := hO.cells4; obtain ⟨d0, d1, d2, d3, y0, y1, y2, y3⟩ := hR.cells4)
  have H := (((((hR.far (p := ⟨w.heap.size + 1 + 1, 2, none⟩) (by simp) (.int .u64 ((numE l e).1 : Int))).set 0 (.int .i64 k)).set 1 (.int .i64 ls)).set 2 (.int .u64 ((numE l e).1 : Int))).set 3 (.string (ByteArray.empty)))
  obtain ⟨e0, e1, e2, e3, _⟩ := H.cells4
  have hF0 := ((((Fr.refl w.heap.size [b] w).alloc (Nat.le_refl _) (.cells #[.int .i64 k, .int .i64 ls, .int .u64 (n : Int), .string s] 36)).alloc (by simp) (.cells #[.int .i64 0, .int .i64 0, .int .u64 0, .string ByteArray.empty] 36)).alloc (by simp; omega) (.cells #[.int .i64 k, .int .i64 ls, .int .u64 0, .string ByteArray.empty] 36)).one o1 (.inl (by simp))
  refine bodyPost_ret (v := .agg #[.int .i64 k, .int .i64 ls, .int .u64 ((numE l e).1 : Int), .string (ByteArray.empty)]) (by simp [results, Try.results22, go_sem, e0, e1, e2, e3]) rfl ⟨rfl, ?_, ?_⟩
  · exact ((((h1.far (by simp; omega) _).far (by simp; omega) _).far (by simp; omega) _).far (by simp; omega) _).far (by simp; omega) _
  · exact (((((hF0).setCell (.inr (by first | (simp; done) | (simp; omega))) _).setCell (.inr (by first | (simp; done) | (simp; omega))) _).setCell (.inr (by first | (simp; done) | (simp; omega))) _).setCell (.inr (by first | (simp; done) | (simp; omega))) _).setCell (.inr (by first | (simp; done) | (simp; omega))) _
set_option maxHeartbeats 1000000 in
set_option maxRecDepth 100000 in
theorem take_2t (w : World) (b : Nat) (l : List UInt8) (e ls : Int) (n : Nat) (s : ByteArray) (h : RdL w b l e) (hf : (flagE l e).1 = true) :
    Calls Try.prog 22 #[.pointer (some ⟨b, 0, none⟩), .agg #[.int .i64 2, .int .i64 ls, .int .u64 n, .string s]] w fun r w' => r = .returned (.agg #[.int .i64 2, .int .i64 ls, .int .u64 1, .string (ByteArray.empty)]) ∧ RdL w' b (flagE l e).2.1 (flagE l e).2.2 ∧ Fr w.heap.size [b] w w' := by
  have hlt := h.lt
  have hi := fun W (hR : RdL W b l e) => flagE_any W b l e hR
  rw [hf] at hi
  clear hf
  go_enter Try.func22, Try.ntmps22
  go_wp2_with (go_at_call 42; (refine (hi _ (((h.alloc _).alloc _).alloc _)).mono ?_); rintro e w1 ⟨rfl, h1, o1⟩; have hO := (Has.new' ((w.alloc _).alloc _) 36 [.int .i64 2, .int .i64 ls, .int .u64 0, .string ByteArray.empty] (g := w.heap.size + 1 + 1) (by simp)).one o1 (by omega); have hR := ((Has.new' (w.alloc _) 36 [.int .i64 0, .int .i64 0, .int .u64 0, .string ByteArray.empty] (g := w.heap.size + 1) (by simp)).alloc _).one o1 (by omega); obtain ⟨c0, c1, c2, c3, z0, z1, z2, z3⟩ := hO.cells4; obtain ⟨d0, d1, d2, d3, y0, y1, y2, y3⟩ := hR.cells4)
  have H := (((((hR.far (p := ⟨w.heap.size + 1 + 1, 2, none⟩) (by simp) (.int .u64 1)).set 0 (.int .i64 2)).set 1 (.int .i64 ls)).set 2 (.int .u64 1)).set 3 (.string (ByteArray.empty)))
  obtain ⟨e0, e1, e2, e3, _⟩ := H.cells4
  have hF0 := ((((Fr.refl w.heap.size [b] w).alloc (Nat.le_refl _) (.cells #[.int .i64 2, .int .i64 ls, .int .u64 (n : Int), .string s] 36)).alloc (by simp) (.cells #[.int .i64 0, .int .i64 0, .int .u64 0, .string ByteArray.empty] 36)).alloc (by simp; omega) (.cells #[.int .i64 2, .int .i64 ls, .int .u64 0, .string ByteArray.empty] 36)).one o1 (.inl (by simp))
  refine bodyPost_ret (v := .agg #[.int .i64 2, .int .i64 ls, .int .u64 1, .string (ByteArray.empty)]) (by simp [results, Try.results22, go_sem, e0, e1, e2, e3]) rfl ⟨rfl, ?_, ?_⟩
  · exact ((((h1.far (by simp; omega) _).far (by simp; omega) _).far (by simp; omega) _).far (by simp; omega) _).far (by simp; omega) _
  · exact (((((hF0).setCell (.inr (by first | (simp; done) | (simp; omega))) _).setCell (.inr (by first | (simp; done) | (simp; omega))) _).setCell (.inr (by first | (simp; done) | (simp; omega))) _).setCell (.inr (by first | (simp; done) | (simp; omega))) _).setCell (.inr (by first | (simp; done) | (simp; omega))) _
set_option maxHeartbeats 1000000 in
set_option maxRecDepth 100000 in
theorem take_2f (w : World) (b : Nat) (l : List UInt8) (e ls : Int) (n : Nat) (s : ByteArray) (h : RdL w b l e) (hf : (flagE l e).1 = false) :
    Calls Try.prog 22 #[.pointer (some ⟨b, 0, none⟩), .agg #[.int .i64 2, .int .i64 ls, .int .u64 n, .string s]] w fun r w' => r = .returned (.agg #[.int .i64 2, .int .i64 ls, .int .u64 0, .string (ByteArray.empty)]) ∧ RdL w' b (flagE l e).2.1 (flagE l e).2.2 ∧ Fr w.heap.size [b] w w' := by
  have hlt := h.lt
  have hi := fun W (hR : RdL W b l e) => flagE_any W b l e hR
  rw [hf] at hi
  clear hf
  go_enter Try.func22, Try.ntmps22
  go_wp2_with (go_at_call 42; (refine (hi _ (((h.alloc _).alloc _).alloc _)).mono ?_); rintro e w1 ⟨rfl, h1, o1⟩; have hO := (Has.new' ((w.alloc _).alloc _) 36 [.int .i64 2, .int .i64 ls, .int .u64 0, .string ByteArray.empty] (g := w.heap.size + 1 + 1) (by simp)).one o1 (by omega); have hR := ((Has.new' (w.alloc _) 36 [.int .i64 0, .int .i64 0, .int .u64 0, .string ByteArray.empty] (g := w.heap.size + 1) (by simp)).alloc _).one o1 (by omega); obtain ⟨c0, c1, c2, c3, z0, z1, z2, z3⟩ := hO.cells4; obtain ⟨d0, d1, d2, d3, y0, y1, y2, y3⟩ := hR.cells4)
  have H := (((((hR).set 0 (.int .i64 2)).set 1 (.int .i64 ls)).set 2 (.int .u64 0)).set 3 (.string (ByteArray.empty)))
  obtain ⟨e0, e1, e2, e3, _⟩ := H.cells4
  have hF0 := ((((Fr.refl w.heap.size [b] w).alloc (Nat.le_refl _) (.cells #[.int .i64 2, .int .i64 ls, .int .u64 (n : Int), .string s] 36)).alloc (by simp) (.cells #[.int .i64 0, .int .i64 0, .int .u64 0, .string ByteArray.empty] 36)).alloc (by simp; omega) (.cells #[.int .i64 2, .int .i64 ls, .int .u64 0, .string ByteArray.empty] 36)).one o1 (.inl (by simp))
  refine bodyPost_ret (v := .agg #[.int .i64 2, .int .i64 ls, .int .u64 0, .string (ByteArray.empty)]) (by simp [results, Try.results22, go_sem, e0, e1, e2, e3]) rfl ⟨rfl, ?_, ?_⟩
  · exact ((((h1).far (by simp; omega) _).far (by simp; omega) _).far (by simp; omega) _).far (by simp; omega) _
  · exact (((hF0.setCell (.inr (by first | (simp; done) | (simp; omega))) _).setCell (.inr (by first | (simp; done) | (simp; omega))) _).setCell (.inr (by first | (simp; done) | (simp; omega))) _).setCell (.inr (by first | (simp; done) | (simp; omega))) _
end Go.Proofs.Ytpcbkkccaahdbaa
