/- Take, Drop, Lose. -/
import Derived.Test.YtjlpbhmhnniodaaNetGone
namespace Go.Proofs.Ytjlpbhmhnniodaa
open Go.RowKit Go.Maps
open Nt
set_option maxHeartbeats 2000000 in
theorem take_none (w : World) (pick : Int) : Calls Try.prog 11 #[.pointer none, .int .i64 pick] w fun e w' => e = .returned (.tuple #[.agg #[.int .i64 0, .int .i64 0, .int .i64 0, .string ByteArray.empty], .bool false]) ∧ Fr w.heap.size [] w w' := by
  have hpk := fun W => picked_none W none 0 pick
  unfold zeroMsg Msg.val at hpk
  simp only at hpk
  go_enter Try.func11, Try.ntmps11
  go_wp2_with (first
    | (go_at_call 19; (refine (hpk w1).mono ?_); rintro e w2 ⟨rfl, f2⟩; have H := ((Has.new w 34 [.int .i64 0, .int .i64 0, .int .i64 0, .string ⟨#[]⟩]).fr f1 (by simp) (by simp)).fr f2 (by have := f1.size; simp at this; omega) (by simp); have H2 := H.alloc (.cells #[.int .i64 0, .int .i64 0, .int .i64 0, .string ByteArray.empty] 34); obtain ⟨e0, e1, e2, e3⟩ : _ ∧ _ ∧ _ ∧ _ := ⟨H2.cell 0, H2.cell 1, H2.cell 2, H2.cell 3⟩; obtain ⟨z0, z1, z2, z3⟩ : _ ∧ _ ∧ _ ∧ _ := ⟨H2.frozen 0, H2.frozen 1, H2.frozen 2, H2.frozen 3⟩)
    | (go_at_call 14; (refine (waits_nil _ none 0 0).mono ?_); rintro e w1 ⟨rfl, f1⟩))
  have H4 := (((H2.set 0 (.int .i64 0)).set 1 (.int .i64 0)).set 2 (.int .i64 0)).set 3 (.string ByteArray.empty)
  have y0 : _ = some (Value.int .i64 0) := H4.cell 0
  have y1 : _ = some (Value.int .i64 0) := H4.cell 1
  have y2 : _ = some (Value.int .i64 0) := H4.cell 2
  have y3 : _ = some (Value.string ByteArray.empty) := H4.cell 3
  have hF0 := (((Fr.refl w.heap.size [] w).alloc (Nat.le_refl _) (.cells #[.int .i64 0, .int .i64 0, .int .i64 0, .string ⟨#[]⟩] 34)).trans (f1.mono (by simp) (by simp)))
  have hF1 := (hF0.trans (f2.mono hF0.size (by simp)))
  have hF2 := hF1.alloc hF1.size (.cells #[.int .i64 0, .int .i64 0, .int .i64 0, .string ByteArray.empty] 34)
  have hF4 := ((((hF2.setCell (p := ⟨w.heap.size, 0, none⟩) (.inr (Nat.le_refl _)) (.int .i64 0)).setCell (p := ⟨w.heap.size, 1, none⟩) (.inr (Nat.le_refl _)) (.int .i64 0)).setCell (p := ⟨w.heap.size, 2, none⟩) (.inr (Nat.le_refl _)) (.int .i64 0)).setCell (p := ⟨w.heap.size, 3, none⟩) (.inr (Nat.le_refl _)) (.string ByteArray.empty))
  refine bodyPost_ret (v := .tuple #[.agg #[.int .i64 0, .int .i64 0, .int .i64 0, .string ByteArray.empty], .bool false]) (by simp [results, Try.results11, go_sem, y0, y1, y2, y3]) rfl ⟨rfl, hF4⟩
def Nt.takenS (ms : List Msg) (D : List (Pair × Unit)) (pick : Int) : Option Msg := pickS (ms.filter (wantB D [])) pick
def Nt.takeS (ms : List Msg) (D : List (Pair × Unit)) (pick : Int) : List Msg := match takenS ms D pick with | none => ms | some m => ms.filter fun x => !(x.n == m.n)
theorem row_arow {w : World} {base n : Nat} {v : Value} {ms : List Msg} (h : w.ownsRow base 34 4 v n (ms.flatMap Msg.cells)) (hn : ms.length = n) : ∃ A c, v = .slice A n c ∧ ARow w w.heap.size A (ms.flatMap Msg.cells) := by
  rcases h.2 with ⟨hv, h0⟩ | ⟨g, cap, cur, hv, hbg, hh, r⟩
  · exact ⟨none, 0, by rw [hv, h0], .inl (by rw [List.eq_nil_of_length_eq_zero (by omega : ms.length = 0)]; rfl)⟩
  · rw [hv] at h
    refine ⟨_, cap, hv, .inr ⟨g, 0, rfl, (Array.getElem?_eq_some_iff.1 hh).1, fun j u hu => ?_⟩⟩
    have hj : j < n * 4 := by
      have := (List.getElem?_eq_some_iff.1 hu).1
      rwa [flatMap_len Msg.cells 4 (fun _ => rfl), hn] at this
    have := h.cellAt j hj
    rw [Nat.zero_add, this]
    exact hu
set_option maxHeartbeats 2000000 in
theorem take_any (w : World) (g : Nat) (F : List Nat) (made : Int) (ms : List Msg) (D : List (Pair × Unit)) (hN : NetIs w g F made ms D) (hms : ms.length ≤ 1000000) (pick : Int) (hp : okI pick) :
    Calls Try.prog 11 #[.pointer (some ⟨g, 0, none⟩), .int .i64 pick] w fun e w' => e = .returned (.tuple #[((takenS ms D pick).getD zeroMsg).val, .bool (takenS ms D pick).isSome]) ∧ NetIs w' g F made (takeS ms D pick) D ∧ Fr w.heap.size F w w' := by
  have hf0 := (Fr.refl w.heap.size [] w).alloc (Nat.le_refl _) (.cells #[.int .i64 0, .int .i64 0, .int .i64 0, .string ⟨#[]⟩] 34)
  have hN0 := hN.fr0 hf0
  have hwl : (ms.filter (wantB D [])).length ≤ 1000000 := Nat.le_trans (List.length_filter_le _ _) hms
  have hwait := waits_any _ g F made ms D hN0 hms none 0 [] (.inl rfl) (by simp)
  obtain ⟨wl, hwd⟩ : ∃ wl, Hid (wl = ms.filter (wantB D [])) := ⟨_, rfl⟩
  unfold takeS takenS
  rw [← hwd.out] at hwl hwait ⊢
  have hpk : ∀ W A c, ARow W W.heap.size A (wl.flatMap Msg.cells) → Calls Try.prog 19 #[.slice A wl.length c, .int .i64 pick] W fun e w' => e = .returned (.tuple #[((pickS wl pick).getD zeroMsg).val, .bool (pickS wl pick).isSome]) ∧ Fr W.heap.size [] W w' := fun W A c hA => picked_any W A c wl pick hp hA hwl
  obtain ⟨x, hx⟩ : ∃ x, Hid (x = (pickS wl pick).getD zeroMsg) := ⟨_, rfl⟩
  obtain ⟨is, his⟩ : ∃ is, Hid (is = (pickS wl pick).isSome) := ⟨_, rfl⟩
  rw [← hx.out, ← his.out] at hpk ⊢
  have hst : (match pickS wl pick with | none => ms | some m => ms.filter fun x => !(x.n == m.n)) = if is then ms.filter (fun y => !(y.n == x.n)) else ms := by
    rw [his.out, hx.out]
    cases pickS wl pick <;> rfl
  rw [hst]
  clear hst hx his hwd
  unfold Msg.val at hpk ⊢
  have hgone : ∀ W b, NetIs W g F made ms D → b < W.heap.size → b ∉ F → W.cell? ⟨b, 0, none⟩ = some (.int .i64 x.n) → Calls Try.prog 20 #[.pointer (some ⟨g, 0, none⟩), .func (.func 21) #[] #[.pointer (some ⟨b, 0, none⟩)]] W fun e w' => (∃ r : Int, e = .returned (.int .i64 r)) ∧ NetIs w' g F made (ms.filter fun y => !(y.n == x.n)) D ∧ Fr W.heap.size F W w' := fun W b hW hb hbF hc =>
    (gone_any W g F made ms D hW hms 21 #[.pointer (some ⟨b, 0, none⟩)] (fun y => y.n == x.n) (Go.Proofs.enters_of Try.func21 (by kernel_rfl) rfl) (fun W' hW' m _ => takeF_any W' m b x.n (Nat.lt_of_lt_of_le hb hW'.size) ((hW'.cell (p := ⟨b, 0, none⟩) hb hbF).trans hc))).mono fun e w' ⟨he, h1, h2⟩ => ⟨⟨_, he⟩, h1, h2⟩
  cases is
  · go_enter Try.func11, Try.ntmps11
    go_wp2_with (first
      | (go_at_call 19; (refine (hpk w1 A c hA1).mono ?_); rintro e w2 ⟨rfl, f2⟩; have H := ((Has.new w 34 [.int .i64 0, .int .i64 0, .int .i64 0, .string ⟨#[]⟩]).fr f1 (by simp) (by simp)).fr f2 (by have := f1.size; simp at this; omega) (by simp); have H2 := H.alloc (.cells #[.int .i64 x.n, .int .i64 x.src, .int .i64 x.dst, .string x.body] 34); obtain ⟨e0, e1, e2, e3⟩ : _ ∧ _ ∧ _ ∧ _ := ⟨H2.cell 0, H2.cell 1, H2.cell 2, H2.cell 3⟩; obtain ⟨z0, z1, z2, z3⟩ : _ ∧ _ ∧ _ ∧ _ := ⟨H2.frozen 0, H2.frozen 1, H2.frozen 2, H2.frozen 3⟩)
      | (go_at_call 14; (refine hwait.mono ?_); rintro e w1 ⟨v1, rfl, hown, f1⟩; obtain ⟨A, c, rfl, hA1⟩ := row_arow hown rfl))
    have H4 := (((H2.set 0 (.int .i64 x.n)).set 1 (.int .i64 x.src)).set 2 (.int .i64 x.dst)).set 3 (.string x.body)
    have y0 : _ = some (Value.int .i64 x.n) := H4.cell 0
    have y1 : _ = some (Value.int .i64 x.src) := H4.cell 1
    have y2 : _ = some (Value.int .i64 x.dst) := H4.cell 2
    have y3 : _ = some (Value.string x.body) := H4.cell 3
    have hF0 := (((Fr.refl w.heap.size [] w).alloc (Nat.le_refl _) (.cells #[.int .i64 0, .int .i64 0, .int .i64 0, .string ⟨#[]⟩] 34)).trans (f1.mono (by simp) (by simp)))
    have hF1 := (hF0.trans (f2.mono hF0.size (by simp)))
    have hF2 := hF1.alloc hF1.size (.cells #[.int .i64 x.n, .int .i64 x.src, .int .i64 x.dst, .string x.body] 34)
    have hF4 := ((((hF2.setCell (p := ⟨w.heap.size, 0, none⟩) (.inr (Nat.le_refl _)) (.int .i64 x.n)).setCell (p := ⟨w.heap.size, 1, none⟩) (.inr (Nat.le_refl _)) (.int .i64 x.src)).setCell (p := ⟨w.heap.size, 2, none⟩) (.inr (Nat.le_refl _)) (.int .i64 x.dst)).setCell (p := ⟨w.heap.size, 3, none⟩) (.inr (Nat.le_refl _)) (.string x.body))
    refine bodyPost_ret (v := .tuple #[.agg #[.int .i64 x.n, .int .i64 x.src, .int .i64 x.dst, .string x.body], .bool false]) (by simp [results, Try.results11, go_sem, y0, y1, y2, y3]) rfl ⟨rfl, hN.fr0 hF4, hF4.mono (Nat.le_refl _) (by simp)⟩
  · go_enter Try.func11, Try.ntmps11
    go_wp2_with (first
      | (go_at_call 20; (refine (hgone _ w2.heap.size hN2 (by simp) hbF (by first | exact hb6 | simpa using hb6)).mono ?_); rintro e w4 ⟨⟨r, rfl⟩, hN4, f4⟩; have hX := (Has.new w2 34 [.int .i64 x.n, .int .i64 x.src, .int .i64 x.dst, .string x.body]).fr f4 (by simp) hbF; obtain ⟨k0, k1, k2, k3⟩ : _ ∧ _ ∧ _ ∧ _ := ⟨hX.cell 0, hX.cell 1, hX.cell 2, hX.cell 3⟩; have H3 := H2.fr f4 (by have := hF1.size; simp; omega) haF; obtain ⟨j0, j1, j2, j3⟩ : _ ∧ _ ∧ _ ∧ _ := ⟨H3.cell 0, H3.cell 1, H3.cell 2, H3.cell 3⟩; obtain ⟨l0, l1, l2, l3⟩ : _ ∧ _ ∧ _ ∧ _ := ⟨H3.frozen 0, H3.frozen 1, H3.frozen 2, H3.frozen 3⟩)
      | (go_at_call 19; (refine (hpk w1 A c hA1).mono ?_); rintro e w2 ⟨rfl, f2⟩; have H := ((Has.new w 34 [.int .i64 0, .int .i64 0, .int .i64 0, .string ⟨#[]⟩]).fr f1 (by simp) (by simp)).fr f2 (by have := f1.size; simp at this; omega) (by simp); have H2 := H.alloc (.cells #[.int .i64 x.n, .int .i64 x.src, .int .i64 x.dst, .string x.body] 34); obtain ⟨e0, e1, e2, e3⟩ : _ ∧ _ ∧ _ ∧ _ := ⟨H2.cell 0, H2.cell 1, H2.cell 2, H2.cell 3⟩; obtain ⟨z0, z1, z2, z3⟩ : _ ∧ _ ∧ _ ∧ _ := ⟨H2.frozen 0, H2.frozen 1, H2.frozen 2, H2.frozen 3⟩;
         have hF0 := (((Fr.refl w.heap.size [] w).alloc (Nat.le_refl _) (.cells #[.int .i64 0, .int .i64 0, .int .i64 0, .string ⟨#[]⟩] 34)).trans (f1.mono (by simp) (by simp)));
         have hF1 := (hF0.trans (f2.mono hF0.size (by simp)));
         have hF2 := hF1.alloc hF1.size (.cells #[.int .i64 x.n, .int .i64 x.src, .int .i64 x.dst, .string x.body] 34);
         have hN2 := hN.fr0 hF2;
         have hbF : w2.heap.size ∉ F := fun hk => absurd (hN.lt _ hk) (by have := hF1.size; omega);
         have haF : w.heap.size ∉ F := fun hk => absurd (hN.lt _ hk) (by omega);
         have hb6 := (Has.new w2 34 [.int .i64 x.n, .int .i64 x.src, .int .i64 x.dst, .string x.body]).cell 0)
      | (go_at_call 14; (refine hwait.mono ?_); rintro e w1 ⟨v1, rfl, hown, f1⟩; obtain ⟨A, c, rfl, hA1⟩ := row_arow hown rfl))
    have H4 := (((H3.set 0 (.int .i64 x.n)).set 1 (.int .i64 x.src)).set 2 (.int .i64 x.dst)).set 3 (.string x.body)
    have y0 : _ = some (Value.int .i64 x.n) := H4.cell 0
    have y1 : _ = some (Value.int .i64 x.src) := H4.cell 1
    have y2 : _ = some (Value.int .i64 x.dst) := H4.cell 2
    have y3 : _ = some (Value.string x.body) := H4.cell 3
    have hS := ((((Fr.refl w.heap.size [] w4).setCell (p := ⟨w.heap.size, 0, none⟩) (.inr (Nat.le_refl _)) (.int .i64 x.n)).setCell (p := ⟨w.heap.size, 1, none⟩) (.inr (Nat.le_refl _)) (.int .i64 x.src)).setCell (p := ⟨w.heap.size, 2, none⟩) (.inr (Nat.le_refl _)) (.int .i64 x.dst)).setCell (p := ⟨w.heap.size, 3, none⟩) (.inr (Nat.le_refl _)) (.string x.body)
    have hN5 := hN4.fr (B := w.heap.size) (S := []) hN.lt (by simp) hS
    have hF5 := ((hF2.mono (S' := F) (Nat.le_refl _) (by simp)).trans (f4.mono hF2.size fun _ h _ => h)).trans (hS.mono (S' := F) (Nat.le_refl _) (by simp))
    refine bodyPost_ret (v := .tuple #[.agg #[.int .i64 x.n, .int .i64 x.src, .int .i64 x.dst, .string x.body], .bool true]) (by simp [results, Try.results11, go_sem, y0, y1, y2, y3]) rfl ⟨rfl, hN5, hF5⟩
set_option maxHeartbeats 2000000 in
theorem drop_none (w : World) (pick : Int) : Calls Try.prog 16 #[.pointer none, .int .i64 pick] w fun e w' => e = .returned (.bool false) ∧ Fr w.heap.size [] w w' := by
  go_enter Try.func16, Try.ntmps16
  go_wp2
  go_ret
  exact ⟨rfl, Fr.refl _ _ _⟩
set_option maxHeartbeats 2000000 in
theorem lose_none (w : World) (pick : Int) : Calls Try.prog 17 #[.pointer none, .int .i64 pick] w fun e w' => e = .returned (.int .i64 0) ∧ Fr w.heap.size [] w w' := by
  go_enter Try.func17, Try.ntmps17
  go_wp2
  go_ret
  exact ⟨rfl, (Fr.refl _ _ _).alloc (Nat.le_refl _) _⟩
set_option maxHeartbeats 2000000 in
theorem double_none (w : World) (pick : Int) : Calls Try.prog 15 #[.pointer none, .int .i64 pick] w fun e w' => e = .returned (.bool false) ∧ Fr w.heap.size [] w w' := by
  go_enter Try.func15, Try.ntmps15
  go_wp2
  go_ret
  exact ⟨rfl, Fr.refl _ _ _⟩
set_option maxHeartbeats 2000000 in
theorem send_none (w : World) (a b : Int) (A : Option Addr) (n c : Nat) : Calls Try.prog 9 #[.pointer none, .int .i64 a, .int .i64 b, .slice A n c] w fun e w' => e = .returned (.int .i64 0) ∧ Fr w.heap.size [] w w' := by
  go_enter Try.func9, Try.ntmps9
  go_wp2
  go_ret
  exact ⟨rfl, Fr.refl _ _ _⟩
set_option maxHeartbeats 2000000 in
theorem heal_none (w : World) (A : Option Addr) (n c : Nat) : Calls Try.prog 13 #[.pointer none, .slice A n c] w fun e w' => e = .returned (.int .i64 0) ∧ Fr w.heap.size [] w w' := by
  go_enter Try.func13, Try.ntmps13
  go_wp2
  go_ret
  exact ⟨rfl, Fr.refl _ _ _⟩
end Go.Proofs.Ytjlpbhmhnniodaa
