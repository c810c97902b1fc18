/- A wheel that the call itself has made: the contracts in one form. -/
import Derived.Test.YtkclpkepmckjgaaWhlPlain
namespace Go.Proofs.Ytkclpkepmckjgaa
open Go.RowKit Go.Maps Go.Sort Go.Shelf
open Wh
namespace Wh
/-- The blocks of K hold the same. -/
def Kp (K : List Nat) (W W' : World) : Prop := ∀ k ∈ K, W'.heap[k]? = W.heap[k]?
/-- A wheel in block g; all its blocks are from B on and none of K; the blocks below B are as in w. -/
def WAt (B : Nat) (K : List Nat) (w W : World) (g : Nat) (n : Int) (L : List (Key × Int)) : Prop := ∃ F D LT, WhIs W g F n D ∧ Ord n D LT ∧ view LT = L ∧ (∀ q ∈ F, B ≤ q ∧ q ∉ K) ∧ (∀ k ∈ K, k < W.heap.size) ∧ Fr B [] w W
section
variable {B : Nat} {K : List Nat} {w W W' : World} {g : Nat} {n : Int} {L : List (Key × Int)}
theorem Kp.refl : Kp K W W := fun _ _ => rfl
theorem Kp.trans {W2 : World} (h : Kp K W W') (h2 : Kp K W' W2) : Kp K W W2 := fun k hk => (h2 k hk).trans (h k hk)
theorem Kp.sub (h : Kp K W W') {K' : List Nat} (hK : ∀ k ∈ K', k ∈ K) : Kp K' W W' := fun k hk => h k (hK k hk)
theorem Kp.cell (h : Kp K W W') {b o : Nat} (hb : b ∈ K) {v : Option Value} (hc : W.cell? ⟨b, o, none⟩ = v) : W'.cell? ⟨b, o, none⟩ = v := by
  rw [← hc]
  unfold World.cell?
  simp only [h b hb]
theorem Kp.has (h : Kp K W W') {b t : Nat} {cs : List Value} (hb : b ∈ K) (hc : Has W b t cs) : Has W' b t cs := (h b hb).trans hc
theorem Kp.of_fr {N : Nat} {S : List Nat} (h : Fr N S W W') (hK : ∀ k ∈ K, k < N ∧ k ∉ S) : Kp K W W' := fun k hk => h.block k (hK k hk).1 (hK k hk).2
theorem Kp.own (h : Kp K W W') {base e size m : Nat} {v : Value} {xs : List Value} (hr : W.ownsRow base e size v m xs) (hv : ∀ k, v.ownBlock = some k → k ∈ K) : W'.ownsRow base e size v m xs := by
  refine ⟨hr.1, ?_⟩
  rcases hr.2 with h1 | ⟨b, cap, cur, rfl, h1, h2, h3⟩
  · exact .inl h1
  · exact .inr ⟨b, cap, cur, rfl, h1, (h b (hv b rfl)).trans h2, h3⟩
theorem Kp.out (h : Kp K W W') {base c : Nat} {A : Option Addr} {xs : List Key} (hr : OutRow W base A c xs) (hA : ∀ blk o, A = some ⟨blk, o, none⟩ → blk ∈ K) : OutRow W' base A c xs := by
  rcases hr with h1 | ⟨blk, cs, rfl, h1, h2, h3⟩
  · exact .inl h1
  · exact .inr ⟨blk, cs, rfl, h1, h.has (hA blk 0 rfl) h2, h3⟩
theorem Kp.arow (h : Kp K W W') {N : Nat} {A : Option Addr} {vs : List Value} (hr : ARow W N A vs) (hA : ∀ blk o, A = some ⟨blk, o, none⟩ → blk ∈ K) : ARow W' N A vs := by
  rcases hr with h1 | ⟨blk, o, rfl, h1, h2⟩
  · exact .inl h1
  · exact .inr ⟨blk, o, rfl, h1, fun j v hv => h.cell (hA blk o rfl) (h2 j v hv)⟩
theorem WAt.lo (h : WAt B K w W g n L) : B ≤ W.heap.size := by
  obtain ⟨F, D, LT, h1, _, _, h2, _⟩ := h
  have := h1.lt g h1.self
  have := (h2 g h1.self).1
  omega
theorem WAt.frame (h : WAt B K w W g n L) : Fr B [] w W := by
  obtain ⟨F, D, LT, h1, _, _, h2, h3, h4⟩ := h
  exact h4
theorem WAt.klt (h : WAt B K w W g n L) : ∀ k ∈ K, k < W.heap.size := by
  obtain ⟨F, D, LT, h1, _, _, h2, h3, h4⟩ := h
  exact h3
/-- Something else turns: blocks of K, and new ones. -/
theorem WAt.other (h : WAt B K w W g n L) {S : List Nat} (hf : Fr W.heap.size S W W') (hS : ∀ k ∈ S, k ∈ K ∧ B ≤ k) {K' : List Nat} (hK : ∀ k ∈ K', (k ∈ K ∨ W.heap.size ≤ k) ∧ k < W'.heap.size) : WAt B K' w W' g n L := by
  have hlo := h.lo
  obtain ⟨F, D, LT, h1, o1, o2, h2, h3, h4⟩ := h
  refine ⟨F, D, LT, h1.fr h1.lt (fun k hk hks => (h2 k hk).2 (hS k hks).1) hf, o1, o2, fun q hq => ⟨(h2 q hq).1, fun hqk => ?_⟩, fun k hk => (hK k hk).2, h4.trans (hf.mono hlo fun k hk hkb => absurd (hS k hk).2 (by omega))⟩
  rcases (hK q hqk).1 with h5 | h5
  · exact (h2 q hq).2 h5
  · have := h1.lt q hq; omega
theorem WAt.fr (h : WAt B K w W g n L) (hf : Fr W.heap.size [] W W') : WAt B K w W' g n L ∧ Kp K W W' :=
  ⟨h.other hf (by simp) fun k hk => ⟨.inl hk, Nat.lt_of_lt_of_le (h.klt k hk) hf.size⟩, Kp.of_fr hf fun k hk => ⟨h.klt k hk, by simp⟩⟩
theorem WAt.alloc (h : WAt B K w W g n L) (o : Obj) : WAt B K w (W.alloc o) g n L := (h.fr ((Fr.refl _ _ _).alloc (Nat.le_refl _) o)).1
theorem WAt.drew (h : WAt B K w W g n L) : WAt B K w W.drew g n L := (h.fr (Fr.refl _ _ _).drew).1
theorem WAt.keep (h : WAt B K w W g n L) (o : Obj) : WAt B (W.heap.size :: K) w (W.alloc o) g n L := by
  refine h.other ((Fr.refl _ _ _).alloc (Nat.le_refl _) o) (S := []) (by simp) fun k hk => ?_
  rcases List.mem_cons.1 hk with rfl | hk
  · exact ⟨.inr (Nat.le_refl _), by simp⟩
  · have := h.klt k hk
    exact ⟨.inl hk, by simp; omega⟩
theorem WAt.drop (h : WAt B K w W g n L) {K' : List Nat} (hK : ∀ k ∈ K', k ∈ K) : WAt B K' w W g n L := by
  obtain ⟨F, D, LT, h1, o1, o2, h2, h3, h4⟩ := h
  exact ⟨F, D, LT, h1, o1, o2, fun q hq => ⟨(h2 q hq).1, fun e => (h2 q hq).2 (hK q e)⟩, fun k hk => h3 k (hK k hk), h4⟩
/-- A block of K is written. -/
theorem WAt.write (h : WAt B K w W g n L) {b : Nat} (hb : b ∈ K) (hB : B ≤ b) (ho : One b W W') : WAt B K w W' g n L := by
  have hf : Fr W.heap.size [b] W W' := (Fr.refl _ _ _).one ho (.inl (by simp))
  exact h.other hf (fun k hk => by simp at hk; subst hk; exact ⟨hb, hB⟩) fun k hk => ⟨.inl hk, Nat.lt_of_lt_of_le (h.klt k hk) hf.size⟩
theorem WAt.go {F F' : List Nat} {D D' LT' : List (Key × Tm)} {n' : Int} {L' : List (Key × Int)} (h1 : WhIs W g F n D) (h2 : ∀ q ∈ F, B ≤ q ∧ q ∉ K) (h3 : ∀ k ∈ K, k < W.heap.size) (h4 : Fr B [] w W)
    (k1 : WhIs W' g F' n' D') (o1 : Ord n' D' LT') (o2 : view LT' = L') (k2 : Fr W.heap.size F W W') (k3 : ∀ q ∈ F', q ∈ F ∨ W.heap.size ≤ q) : WAt B K w W' g n' L' ∧ Kp K W W' := by
  have hB : B ≤ W.heap.size := by have := h1.lt g h1.self; have := (h2 g h1.self).1; omega
  exact ⟨⟨F', D', LT', k1, o1, o2, fun q hq => by
    rcases k3 q hq with h | h
    · exact h2 q h
    · exact ⟨by omega, fun e => by have := h3 q e; omega⟩, fun k hk => Nat.lt_of_lt_of_le (h3 k hk) k2.size, h4.trans (k2.mono hB fun q hq hl => absurd (h2 q hq).1 (by omega))⟩, fun k hk => k2.block k (h3 k hk) (fun e => (h2 k e).2 hk)⟩
end
theorem setV_le (a : Int) (xs : List Key) : ∀ L : List (Key × Int), (setV a L xs).length ≤ L.length + xs.length := by
  unfold setV
  induction xs with
  | nil => intro L; simp
  | cons x xs ih =>
    intro L
    rw [List.foldl_cons]
    refine Nat.le_trans (ih _) ?_
    unfold set1 cut1
    have := List.length_filter_le (fun d : Key × Int => decide (d.1 ≠ x)) L
    simp only [List.length_append, List.length_cons, List.length_nil]
    omega
theorem cutV_le (L : List (Key × Int)) (xs : List Key) : (cutV L xs).length ≤ L.length := List.length_filter_le _ _
/-- The row's block, if it has one. -/
def rowB (A : Option Addr) : List Nat := A.toList.map (·.block)
end Wh
section
variable {B : Nat} {K : List Nat} {w W : World} {g : Nat} {n : Int} {L : List (Key × Int)}
theorem at_new (w : World) : Calls Try.prog 7 #[] w fun e w' => e = .returned (.pointer (some ⟨w.heap.size, 0, none⟩)) ∧ WAt w.heap.size [] w w' w.heap.size 0 [] :=
  (wnew_any w).mono fun _ _ ⟨h1, h2, h3⟩ => ⟨h1, _, _, [], h2, Ord.nil 0, rfl, by simp, by simp, h3⟩
theorem at_len (h : WAt B K w W g n L) : Calls Try.prog 17 #[.pointer (some ⟨g, 0, none⟩)] W fun e w' => e = .returned (.int .i64 L.length) ∧ W = w' := by
  obtain ⟨F, D, LT, h1, o1, rfl, h2, h3, h4⟩ := h
  rw [o1.len]
  exact wlen_any W g F n D h1
theorem at_at (h : WAt B K w W g n L) (p : Key) : Calls Try.prog 18 #[.pointer (some ⟨g, 0, none⟩), KV p] W fun e w' => e = .returned (.tuple #[.int .i64 ((getL L p).getD 0), .bool (getL L p).isSome]) ∧ WAt B K w w' g n L ∧ Kp K W w' := by
  have hh := h
  obtain ⟨F, D, LT, h1, o1, rfl, h2, h3, h4⟩ := h
  have h5 : (getL (view LT) p).getD 0 = ((getL D p).getD zT).at_ := by rw [← o1.get]; cases getL D p <;> rfl
  have h6 : (getL (view LT) p).isSome = (getL D p).isSome := by rw [← o1.get]; cases getL D p <;> rfl
  rw [h5, h6]
  exact (wat_any W g F n D h1 p).mono fun e w' ⟨k1, k2⟩ => ⟨k1, hh.fr k2⟩
theorem at_next (h : WAt B K w W g n L) (hl : L.length ≤ 8796093022208) : Calls Try.prog 15 #[.pointer (some ⟨g, 0, none⟩)] W fun e w' => e = .returned (.tuple #[.int .i64 (nextR L), .bool (decide (L ≠ []))]) ∧ WAt B K w w' g n L ∧ Kp K W w' := by
  have hh := h
  obtain ⟨F, D, LT, h1, o1, rfl, h2, h3, h4⟩ := h
  refine (wnext_any W g F n D h1 (by rw [← o1.len]; exact hl) (fun k hk => ?_)).mono fun e w' ⟨ts, k1, k2, k3, k4⟩ => ⟨by rw [k1, o1.next k2 k3], hh.fr k4⟩
  obtain ⟨d, hd, rfl⟩ := List.mem_map.1 hk
  rw [get_mem o1.nod hd]
  rfl
theorem at_due (h : WAt B K w W g n L) (hl : L.length ≤ 8796093022208) (now : Int) : Calls Try.prog 10 #[.pointer (some ⟨g, 0, none⟩), .int .i64 now] W fun e w' => ∃ A c, e = .returned (.slice A (dueR now L.length L).length c) ∧ OutRow w' W.heap.size A c (dueR now L.length L) ∧
      WAt B (rowB A ++ K) w w' g n (cutV L (dueR now L.length L)) ∧ Kp K W w' := by
  obtain ⟨F, D, LT, h1, o1, rfl, h2, h3, h4⟩ := h
  refine (wdue_any W g F n D h1 (by rw [← o1.len]; exact hl) now).mono fun e w' ⟨A, c, ts, k1, k2, k3, k4, k5, k6⟩ => ?_
  have hd := o1.due now k2 k3
  have hlen : takeN D now ts = (dueR now (view LT).length (view LT)).length := by rw [← hd, List.length_take]; have := takeN_le D now ts; omega
  rw [hd] at k4 k5
  obtain ⟨q1, q2⟩ := WAt.go h1 h2 h3 h4 k5 (o1.cut _).1 (o1.cut _).2 k6 fun q hq => .inl hq
  refine ⟨A, c, by rw [k1, hlen], k4, ?_, q2⟩
  obtain ⟨F', D', LT', p1, p2, p3, p4, p5, p6⟩ := q1
  have hFF := h1.lt
  refine ⟨F, _, _, k5, (o1.cut _).1, (o1.cut _).2, fun q hq => ⟨(h2 q hq).1, fun hqk => ?_⟩, fun k hk => ?_, p6⟩
  · rcases List.mem_append.1 hqk with hk | hk
    · rcases k4 with ⟨rfl, _⟩ | ⟨blk, cs, rfl, r1, r2, r3⟩
      · simp [rowB] at hk
      · simp [rowB] at hk
        have := hFF q hq
        omega
    · exact (h2 q hq).2 hk
  · rcases List.mem_append.1 hk with hk | hk
    · rcases k4 with ⟨rfl, _⟩ | ⟨blk, cs, rfl, r1, r2, r3⟩
      · simp [rowB] at hk
      · simp [rowB] at hk
        rw [hk]
        exact r2.lt
    · exact p5 k hk
theorem at_cancel (h : WAt B K w W g n L) (hl : L.length ≤ 4611686018427387904) (A : Option Addr) (c : Nat) (xs : List Key) (hA : ARow W W.heap.size A (xs.map KV)) (hAK : xs ≠ [] → ∀ blk o, A = some ⟨blk, o, none⟩ → blk ∈ K ∨ blk < B) (hx : xs.length ≤ 4611686018427387904) :
    Calls Try.prog 9 #[.pointer (some ⟨g, 0, none⟩), .slice A xs.length c] W fun e w' => e = .returned (.int .i64 ((L.length : Int) - (cutV L xs).length)) ∧ WAt B K w w' g n (cutV L xs) ∧ Kp K W w' := by
  obtain ⟨F, D, LT, h1, o1, rfl, h2, h3, h4⟩ := h
  have hlen := o1.len
  obtain ⟨o3, o4⟩ := o1.cut xs
  refine (wcancel_any W g F n D h1 (by rw [← hlen]; exact hl) A c xs hA (fun hne blk o he hb => ?_) hx).mono fun e w' ⟨k1, k2, k3, k4⟩ => ⟨?_, WAt.go h1 h2 h3 h4 k2 o3 o4 k3 fun q hq => .inl hq⟩
  · rcases hAK hne blk o he with h5 | h5
    · exact (h2 blk hb).2 h5
    · have := (h2 blk hb).1; omega
  · rw [k1, hlen, ← o4, o3.len]
theorem at_set (h : WAt B K w W g n L) (a : Int) (A : Option Addr) (c : Nat) (xs : List Key) (hA : ARow W W.heap.size A (xs.map KV)) (hAK : xs ≠ [] → ∀ blk o, A = some ⟨blk, o, none⟩ → blk ∈ K ∨ blk < B) (hn0 : 0 ≤ n) (hn : n + xs.length ≤ 4611686018427387904) :
    Calls Try.prog 13 #[.pointer (some ⟨g, 0, none⟩), .int .i64 a, .slice A xs.length c] W fun e w' => e = .returned (.tuple #[]) ∧ WAt B K w w' g (n + xs.length) (setV a L xs) ∧ Kp K W w' := by
  obtain ⟨F, D, LT, h1, o1, rfl, h2, h3, h4⟩ := h
  obtain ⟨LT', o3, o4⟩ := o1.set a xs
  refine (wset_any W g F n D h1 a A c xs hA (fun hne blk o he hb => ?_) hn0 hn).mono fun e w' ⟨k1, F', k2, k3, k4⟩ => ⟨k1, WAt.go h1 h2 h3 h4 k2 o3 o4 k3 k4⟩
  rcases hAK hne blk o he with h5 | h5
  · exact (h2 blk hb).2 h5
  · have := (h2 blk hb).1; omega
end
end Go.Proofs.Ytkclpkepmckjgaa
