/- A net that the call itself has made: the contracts in one form. -/
import Derived.Test.YtjlpbhmhnniodaaNetHeal
namespace Go.Proofs.Ytjlpbhmhnniodaa
open Go.RowKit Go.Maps
open Nt
/-- A net in block g; all its blocks are from B on and none of K; the blocks below B are as in w. -/
def Nt.At (B : Nat) (K : List Nat) (w W : World) (g : Nat) (made : Int) (ms : List Msg) (D : List (Pair × Unit)) : Prop := ∃ F, NetIs W g F made ms D ∧ (∀ q ∈ F, B ≤ q ∧ q ∉ K) ∧ (∀ k ∈ K, k < W.heap.size) ∧ Fr B [] w W
/-- The blocks of K hold the same. -/
def Nt.Kp (K : List Nat) (W W' : World) : Prop := ∀ k ∈ K, W'.heap[k]? = W.heap[k]?
section
variable {B : Nat} {K : List Nat} {w W W' : World} {g : Nat} {made : Int} {ms : List Msg} {D : List (Pair × Unit)}
theorem Nt.Kp.cell (h : Kp K W W') {b o : Nat} (hb : b ∈ K) {v : Option Value} (hc : W.cell? ⟨b, o, none⟩ = v) : W'.cell? ⟨b, o, none⟩ = v := by
  rw [← hc]
  unfold World.cell?
  simp only [h b hb]
theorem Nt.Kp.has (h : Kp K W W') {b t : Nat} {cs : List Value} (hb : b ∈ K) (hc : Has W b t cs) : Has W' b t cs := (h b hb).trans hc
theorem Nt.Kp.of_alloc {o : Obj} (h : Kp K (W.alloc o) W') (hK : ∀ k ∈ K, k < W.heap.size) : Kp K W W' := fun k hk => (h k hk).trans (Below.heap_alloc _ o k (hK k hk))
theorem Nt.At.lo (h : At B K w W g made ms D) : B ≤ W.heap.size := by
  obtain ⟨F, h1, h2, _⟩ := h
  have := h1.lt g h1.self
  have := (h2 g h1.self).1
  omega
theorem Nt.At.frame (h : At B K w W g made ms D) : Fr B [] w W := by
  obtain ⟨F, h1, h2, h3, h4⟩ := h
  exact h4
theorem Nt.At.fr (h : At B K w W g made ms D) (hf : Fr W.heap.size [] W W') : At B K w W' g made ms D ∧ Kp K W W' := by
  have hlo := h.lo
  obtain ⟨F, h1, h2, h3, h4⟩ := h
  exact ⟨⟨F, h1.fr0 hf, h2, fun k hk => Nat.lt_of_lt_of_le (h3 k hk) hf.size, h4.trans (hf.mono hlo (by simp))⟩, fun k hk => hf.block k (h3 k hk) (by simp)⟩
theorem Nt.At.alloc (h : At B K w W g made ms D) (o : Obj) : At B K w (W.alloc o) g made ms D := (h.fr ((Fr.refl _ _ _).alloc (Nat.le_refl _) o)).1
theorem Nt.At.keep (h : At B K w W g made ms D) (o : Obj) : At B (W.heap.size :: K) w (W.alloc o) g made ms D := by
  have hlo := h.lo
  obtain ⟨F, h1, h2, h3, h4⟩ := h
  have hf := (Fr.refl W.heap.size [] W).alloc (Nat.le_refl _) o
  exact ⟨F, h1.fr0 hf, fun q hq => ⟨(h2 q hq).1, by simp [(h2 q hq).2]; have := h1.lt q hq; omega⟩, fun k hk => by
    rcases List.mem_cons.1 hk with rfl | hk
    · simp
    · exact Nat.lt_of_lt_of_le (h3 k hk) hf.size, h4.trans (hf.mono hlo (by simp))⟩
theorem Nt.At.drop (h : At B K w W g made ms D) {K' : List Nat} (hK : ∀ k ∈ K', k ∈ K) : At B K' w W g made ms D := by
  obtain ⟨F, h1, h2, h3, h4⟩ := h
  exact ⟨F, h1, fun q hq => ⟨(h2 q hq).1, fun e => (h2 q hq).2 (hK q e)⟩, fun k hk => h3 k (hK k hk), h4⟩
theorem Nt.At.drew (h : At B K w W g made ms D) : At B K w W.drew g made ms D := (h.fr (Fr.refl _ _ _).drew).1
/-- A block of K is written: the net stays. -/
theorem Nt.At.write (h : At B K w W g made ms D) {b : Nat} (hb : b ∈ K) (hB : B ≤ b) (ho : One b W W') : At B K w W' g made ms D := by
  obtain ⟨F, h1, h2, h3, h4⟩ := h
  have hf : Fr W.heap.size [b] W W' := (Fr.refl _ _ _).one ho (.inl (by simp))
  exact ⟨F, h1.fr h1.lt (fun k hk => by simp; intro e; exact (h2 k hk).2 (e ▸ hb)) hf, h2, fun k hk => Nat.lt_of_lt_of_le (h3 k hk) hf.size, h4.one ho (.inr hB)⟩
theorem Nt.At.go {F : List Nat} {made' : Int} {ms' : List Msg} {D' : List (Pair × Unit)} (h1 : NetIs W g F made ms D) (h2 : ∀ q ∈ F, B ≤ q ∧ q ∉ K) (h3 : ∀ k ∈ K, k < W.heap.size) (h4 : Fr B [] w W) (h : ∃ F', NetIs W' g F' made' ms' D' ∧ Fr W.heap.size F W W' ∧ ∀ q ∈ F', q ∈ F ∨ W.heap.size ≤ q) : At B K w W' g made' ms' D' ∧ Kp K W W' := by
  obtain ⟨F', k1, k2, k3⟩ := h
  have hB : B ≤ W.heap.size := by have := h1.lt g h1.self; have := (h2 g h1.self).1; omega
  exact ⟨⟨F', k1, fun q hq => by
    rcases k3 q hq with h | h
    · exact h2 q h
    · exact ⟨by omega, fun e => by have := h3 q e; omega⟩, fun k hk => Nat.lt_of_lt_of_le (h3 k hk) k2.size, h4.trans (k2.mono hB fun q hq hl => absurd (h2 q hq).1 (by omega))⟩, fun k hk => k2.block k (h3 k hk) (fun e => (h2 k e).2 hk)⟩
theorem Nt.At.go1 {F : List Nat} {made' : Int} {ms' : List Msg} {D' : List (Pair × Unit)} (h1 : NetIs W g F made ms D) (h2 : ∀ q ∈ F, B ≤ q ∧ q ∉ K) (h3 : ∀ k ∈ K, k < W.heap.size) (h4 : Fr B [] w W) (k1 : NetIs W' g F made' ms' D') (k2 : Fr W.heap.size F W W') : At B K w W' g made' ms' D' ∧ Kp K W W' :=
  Nt.At.go h1 h2 h3 h4 ⟨F, k1, k2, fun _ h => .inl h⟩
end
section
variable {w W : World} {g : Nat} {made : Int} {ms : List Msg} {D : List (Pair × Unit)}
theorem at_new (w : World) : Calls Try.prog 8 #[] w fun e w' => e = .returned (.pointer (some ⟨w.heap.size, 0, none⟩)) ∧ At w.heap.size [] w w' w.heap.size 0 [] [] :=
  (new_any w).mono fun e w' ⟨h1, h2, h3⟩ => ⟨h1, [w.heap.size], h2, by simp, by simp, h3⟩
theorem at_send {B : Nat} {K : List Nat} (h : At B K w W g made ms D) (hm0 : 0 ≤ made) (hm1 : made ≤ 1000000000) (src dst : Int) (hs : okI src) (hd : okI dst) (bs : List ByteArray) (hb : bs.length ≤ 1000000) (n c : Nat) (hn : n = bs.length) :
    Calls Try.prog 9 #[.pointer (some ⟨g, 0, none⟩), .int .i64 src, .int .i64 dst, .slice (some ⟨W.heap.size, 0, none⟩) n c] (W.alloc (.cells (bs.map Value.string).toArray 9)) fun e w' => e = .returned (.int .i64 (sendS src dst bs made ms).2.2) ∧ At B K w w' g (sendS src dst bs made ms).1 (sendS src dst bs made ms).2.1 D ∧ Kp K W w' := by
  have hgB := h.lo
  obtain ⟨F, h0, h2, h3, h4⟩ := h
  have hf := (Fr.refl W.heap.size [] W).alloc (Nat.le_refl _) (.cells (bs.map Value.string).toArray 9)
  have h1 := h0.fr0 hf
  subst hn
  exact (send_any _ g F made ms D h1 hm0 hm1 src dst hs hd _ c bs (.inr ⟨W.heap.size, 0, rfl, by simp, fun j u hu => by
    rw [Nat.zero_add, (Has.new W 9 (bs.map Value.string)).cell j]
    exact hu⟩) (fun blk o e => by injection e with e; injection e with e _; intro hq; exact absurd (h0.lt _ hq) (by omega)) hb).mono fun e w' ⟨k1, k2⟩ => ⟨k1, by
    obtain ⟨x1, x2⟩ := At.go h1 h2 (fun k hk => Nat.lt_of_lt_of_le (h3 k hk) hf.size) (h4.trans (hf.mono hgB (by simp))) k2
    exact ⟨x1, x2.of_alloc h3⟩⟩
theorem at_cut {B : Nat} {K : List Nat} (h : At B K w W g made ms D) (a c : Int) (ha : okI a) (hc : okI c) :
    Calls Try.prog 10 #[.pointer (some ⟨g, 0, none⟩), .int .i64 a, .int .i64 c] W fun e w' => e = .returned (.tuple #[]) ∧ At B K w w' g made ms (cutS D a c) ∧ Kp K W w' := by
  obtain ⟨F, h1, h2, h3, h4⟩ := h
  exact (cut_any W g F made ms D h1 a c ha hc).mono fun e w' ⟨k1, k2⟩ => ⟨k1, Nt.At.go h1 h2 h3 h4 k2⟩
theorem at_take {B : Nat} {K : List Nat} (h : At B K w W g made ms D) (hms : ms.length ≤ 1000000) (pick : Int) (hp : okI pick) :
    Calls Try.prog 11 #[.pointer (some ⟨g, 0, none⟩), .int .i64 pick] W fun e w' => e = .returned (.tuple #[((takenS ms D pick).getD zeroMsg).val, .bool (takenS ms D pick).isSome]) ∧ At B K w w' g made (takeS ms D pick) D ∧ Kp K W w' := by
  obtain ⟨F, h1, h2, h3, h4⟩ := h
  exact (take_any W g F made ms D h1 hms pick hp).mono fun e w' ⟨k1, k2, k3⟩ => ⟨k1, Nt.At.go1 h1 h2 h3 h4 k2 k3⟩
theorem at_drop {B : Nat} {K : List Nat} (h : At B K w W g made ms D) (hms : ms.length ≤ 1000000) (pick : Int) (hp : okI pick) :
    Calls Try.prog 16 #[.pointer (some ⟨g, 0, none⟩), .int .i64 pick] W fun e w' => e = .returned (.bool (dropB ms pick)) ∧ At B K w w' g made (dropS ms pick) D ∧ Kp K W w' := by
  obtain ⟨F, h1, h2, h3, h4⟩ := h
  exact (drop_any W g F made ms D h1 hms pick hp).mono fun e w' ⟨k1, k2, k3⟩ => ⟨k1, Nt.At.go1 h1 h2 h3 h4 k2 k3⟩
theorem at_lose {B : Nat} {K : List Nat} (h : At B K w W g made ms D) (hms : ms.length ≤ 1000000) (k : Int) :
    Calls Try.prog 17 #[.pointer (some ⟨g, 0, none⟩), .int .i64 k] W fun e w' => e = .returned (.int .i64 ((ms.length : Int) - ((loseS ms k).length : Int))) ∧ At B K w w' g made (loseS ms k) D ∧ Kp K W w' := by
  obtain ⟨F, h1, h2, h3, h4⟩ := h
  exact (lose_any W g F made ms D h1 hms k).mono fun e w' ⟨k1, k2, k3⟩ => ⟨k1, Nt.At.go1 h1 h2 h3 h4 k2 k3⟩
theorem at_double {B : Nat} {K : List Nat} (h : At B K w W g made ms D) (hms : ms.length ≤ 1000000) (hm0 : 0 ≤ made) (hm1 : made ≤ 1000000000) (pick : Int) (hp : okI pick) :
    Calls Try.prog 15 #[.pointer (some ⟨g, 0, none⟩), .int .i64 pick] W fun e w' => e = .returned (.bool ((doubleS made ms pick).2.2 == 1)) ∧ At B K w w' g (doubleS made ms pick).1 (doubleS made ms pick).2.1 D ∧ Kp K W w' := by
  obtain ⟨F, h1, h2, h3, h4⟩ := h
  exact (double_any W g F made ms D h1 hms hm0 hm1 pick hp).mono fun e w' ⟨k1, k2⟩ => ⟨k1, Nt.At.go h1 h2 h3 h4 k2⟩
theorem at_heal0 {B : Nat} {K : List Nat} (h : At B K w W g made ms D) (hDl : D.length ≤ 1000000) (c : Nat) :
    Calls Try.prog 13 #[.pointer (some ⟨g, 0, none⟩), .slice none 0 c] W fun e w' => e = .returned (.int .i64 ((D.length : Int) - (healS D []).length)) ∧ At B K w w' g made ms (healS D []) ∧ Kp K W w' := by
  obtain ⟨F, h1, h2, h3, h4⟩ := h
  exact (heal_any W g F made ms D h1 hDl none c [] (.inl rfl) (by simp) (by simp)).mono fun e w' ⟨k1, k2, k3⟩ => ⟨k1, Nt.At.go1 h1 h2 h3 h4 k2 k3⟩
theorem ints_new (W : World) (xs : List Int) : ARow (W.alloc (.cells (xs.map (Value.int .i64)).toArray 3)) (W.heap.size + 1) (some ⟨W.heap.size, 0, none⟩) (xs.map (Value.int .i64)) :=
  .inr ⟨W.heap.size, 0, rfl, by omega, fun j u hu => by
    rw [Nat.zero_add, (Has.new W 3 (xs.map (Value.int .i64))).cell j]
    exact hu⟩
theorem at_heal {B : Nat} {K : List Nat} (h : At B K w W g made ms D) (hDl : D.length ≤ 1000000) (xs : List Int) (hx : xs.length ≤ 1000000) (n c : Nat) (hn : n = xs.length) :
    Calls Try.prog 13 #[.pointer (some ⟨g, 0, none⟩), .slice (some ⟨W.heap.size, 0, none⟩) n c] (W.alloc (.cells (xs.map (Value.int .i64)).toArray 3)) fun e w' => e = .returned (.int .i64 ((D.length : Int) - (healS D xs).length)) ∧ At B K w w' g made ms (healS D xs) ∧ Kp K W w' := by
  have hgB := h.lo
  obtain ⟨F, h0, h2, h3, h4⟩ := h
  have hf := (Fr.refl W.heap.size [] W).alloc (Nat.le_refl _) (.cells (xs.map (Value.int .i64)).toArray 3)
  have h1 := h0.fr0 hf
  subst hn
  exact (heal_any _ g F made ms D h1 hDl _ c xs ((ints_new W xs).mono (by simp)) (fun blk o e => by injection e with e; injection e with e _; intro hq; exact absurd (h0.lt _ hq) (by omega)) hx).mono fun e w' ⟨k1, k2, k3⟩ => ⟨k1, by
    obtain ⟨x1, x2⟩ := At.go1 h1 h2 (fun k hk => Nat.lt_of_lt_of_le (h3 k hk) hf.size) (h4.trans (hf.mono hgB (by simp))) k2 k3
    exact ⟨x1, x2.of_alloc h3⟩⟩
theorem at_joined {B : Nat} {K : List Nat} (h : At B K w W g made ms D) (a c : Int) (ha : okI a) (hc : okI c) :
    Calls Try.prog 12 #[.pointer (some ⟨g, 0, none⟩), .int .i64 a, .int .i64 c] W fun e w' => e = .returned (.bool (joinB D a c)) ∧ At B K w w' g made ms D ∧ Kp K W w' := by
  have h' := h
  obtain ⟨F, h1, h2, h3, h4⟩ := h
  exact (joined_any W g F made ms D h1 a c ha hc).mono fun e w' ⟨k1, k2⟩ => ⟨k1, h'.fr k2⟩
theorem at_waits0 {B : Nat} {K : List Nat} (h : At B K w W g made ms D) (hms : ms.length ≤ 1000000) (c : Nat) :
    Calls Try.prog 14 #[.pointer (some ⟨g, 0, none⟩), .slice none 0 c] W fun e w' => ∃ A c', e = .returned (.slice A (ms.filter (wantB D [])).length c') ∧ ARow w' w'.heap.size A ((ms.filter (wantB D [])).flatMap Msg.cells) ∧ At B K w w' g made ms D ∧ Kp K W w' := by
  have h' := h
  obtain ⟨F, h1, h2, h3, h4⟩ := h
  refine (waits_any W g F made ms D h1 hms none c [] (.inl rfl) (by simp)).mono ?_
  rintro e w' ⟨v', k1, k2, k3⟩
  obtain ⟨A, c', rfl, hA⟩ := row_arow k2 rfl
  exact ⟨A, c', k1, hA, h'.fr k3⟩
theorem at_waits {B : Nat} {K : List Nat} (h : At B K w W g made ms D) (hms : ms.length ≤ 1000000) (xs : List Int) (hx : xs.length ≤ 1000000) (n c : Nat) (hn : n = xs.length) :
    Calls Try.prog 14 #[.pointer (some ⟨g, 0, none⟩), .slice (some ⟨W.heap.size, 0, none⟩) n c] (W.alloc (.cells (xs.map (Value.int .i64)).toArray 3)) fun e w' => ∃ A c', e = .returned (.slice A (ms.filter (wantB D xs)).length c') ∧ ARow w' w'.heap.size A ((ms.filter (wantB D xs)).flatMap Msg.cells) ∧ At B K w w' g made ms D ∧ Kp K W w' := by
  have h' := h.alloc (.cells (xs.map (Value.int .i64)).toArray 3)
  have h0 := h
  obtain ⟨F0, _, _, h9, _⟩ := h0
  obtain ⟨F, h1, h2, h3, h4⟩ := h'
  subst hn
  refine (waits_any _ g F made ms D h1 hms _ c xs ((ints_new W xs).mono (by simp)) hx).mono ?_
  rintro e w' ⟨v', k1, k2, k3⟩
  obtain ⟨A, c', rfl, hA⟩ := row_arow k2 rfl
  obtain ⟨x1, x2⟩ := (h.alloc (.cells (xs.map (Value.int .i64)).toArray 3)).fr k3
  exact ⟨A, c', k1, hA, x1, x2.of_alloc h9⟩
end
end Go.Proofs.Ytjlpbhmhnniodaa
