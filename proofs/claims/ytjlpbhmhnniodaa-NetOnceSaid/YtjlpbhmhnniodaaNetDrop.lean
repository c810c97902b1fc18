/- Drop, Lose at a net. -/
import Derived.Test.YtjlpbhmhnniodaaNetTake
namespace Go.Proofs.Ytjlpbhmhnniodaa
open Go.RowKit Go.Maps
open Nt
def Nt.dropS (ms : List Msg) (pick : Int) : List Msg := match pickS ms pick with | none => ms | some m => ms.filter fun x => !(x.n == m.n)
def Nt.dropB (ms : List Msg) (pick : Int) : Bool := (pickS ms pick).isSome && ((ms.length : Int) - (dropS ms pick).length == 1)
set_option maxHeartbeats 2000000 in
theorem drop_any (w : World) (g : Nat) (F : List Nat) (made : Int) (ms : List Msg) (D : List (Pair × Unit)) (hN : NetIs w g F made ms D) (hms : ms.length ≤ 1000000) (pick : Int) (hp : okI pick) :
    Calls Try.prog 16 #[.pointer (some ⟨g, 0, none⟩), .int .i64 pick] w fun e w' => e = .returned (.bool (dropB ms pick)) ∧ NetIs w' g F made (dropS ms pick) D ∧ Fr w.heap.size F w w' := by
  obtain ⟨sl, mp, h1, h2, h3, As, cs, rfl⟩ := hN.row
  have c1 : w.cell? ⟨g, 1, none⟩ = some (.slice As ms.length cs) := h1.cell 1
  have hA : ARow w w.heap.size As (ms.flatMap Msg.cells) := by
    obtain ⟨A, c, he, hA⟩ := row_arow h2 rfl
    injection he with he
    exact he ▸ hA
  have hpk : Calls Try.prog 19 #[.slice As ms.length cs, .int .i64 pick] w fun e w' => e = .returned (.tuple #[((pickS ms pick).getD zeroMsg).val, .bool (pickS ms pick).isSome]) ∧ Fr w.heap.size [] w w' := picked_any w As cs ms pick hp hA hms
  unfold dropB dropS
  obtain ⟨x, hx⟩ : ∃ x, Hid (x = (pickS ms pick).getD zeroMsg) := ⟨_, rfl⟩
  obtain ⟨is, his⟩ : ∃ is, Hid (is = (pickS ms pick).isSome) := ⟨_, rfl⟩
  have hst : (match pickS ms pick with | none => ms | some m => ms.filter fun x => !(x.n == m.n)) = if is then ms.filter (fun y => !(y.n == x.n)) else ms := by
    rw [his.out, hx.out]
    cases pickS ms pick <;> rfl
  rw [hst]
  rw [← hx.out, ← his.out] at hpk
  rw [← his.out]
  clear hst hx his
  unfold Msg.val at hpk
  have hgone : ∀ W b, NetIs W g F made ms D → b < W.heap.size → b ∉ F → W.cell? ⟨b, 0, none⟩ = some (.int .i64 x.n) → Calls Try.prog 20 #[.pointer (some ⟨g, 0, none⟩), .func (.func 27) #[] #[.pointer (some ⟨b, 0, none⟩)]] W fun e w' => e = .returned (.int .i64 ((ms.length : Int) - ((ms.filter fun y => !(y.n == x.n)).length : Int))) ∧ NetIs w' g F made (ms.filter fun y => !(y.n == x.n)) D ∧ Fr W.heap.size F W w' := fun W b hW hb hbF hc =>
    gone_any W g F made ms D hW hms 27 #[.pointer (some ⟨b, 0, none⟩)] (fun y => y.n == x.n) (Go.Proofs.enters_of Try.func27 (by kernel_rfl) rfl) (fun W' hW' m _ => dropF_any W' m b x.n (Nat.lt_of_lt_of_le hb hW'.size) ((hW'.cell (p := ⟨b, 0, none⟩) hb hbF).trans hc))
  obtain ⟨r, hr⟩ : ∃ r : Int, r = (ms.length : Int) - ((ms.filter fun y => !(y.n == x.n)).length : Int) := ⟨_, rfl⟩
  rw [← hr] at hgone
  cases is
  · go_enter Try.func16, Try.ntmps16
    go_wp2_with (first
      | (go_at_call 19; (refine hpk.mono ?_); rintro e w2 ⟨rfl, f2⟩))
    go_ret
    have hF := f2.alloc f2.size (.cells #[.int .i64 x.n, .int .i64 x.src, .int .i64 x.dst, .string x.body] 34)
    exact ⟨rfl, hN.fr0 hF, hF.mono (Nat.le_refl _) (by simp)⟩
  · go_enter Try.func16, Try.ntmps16
    go_wp2_with (first
      | (go_at_call 20; (refine (hgone _ w2.heap.size hN2 (by simp) hbF (by first | exact hb6 | simpa using hb6)).mono ?_); rintro e w4 ⟨rfl, hN4, f4⟩)
      | (go_at_call 19; (refine hpk.mono ?_); rintro e w2 ⟨rfl, f2⟩;
         have hF2 := f2.alloc f2.size (.cells #[.int .i64 x.n, .int .i64 x.src, .int .i64 x.dst, .string x.body] 34);
         have hN2 := hN.fr0 hF2;
         have hbF : w2.heap.size ∉ F := fun hk => absurd (hN.lt _ hk) (by have := f2.size; omega);
         have hb6 := (Has.new w2 34 [.int .i64 x.n, .int .i64 x.src, .int .i64 x.dst, .string x.body]).cell 0))
    go_ret
    refine ⟨?_, hN4, (hF2.mono (S' := F) (Nat.le_refl _) (by simp)).trans (f4.mono hF2.size fun _ h _ => h)⟩
    simp
def Nt.loseS (ms : List Msg) (k : Int) : List Msg := ms.filter fun m => !(m.src == k || m.dst == k)
set_option maxHeartbeats 2000000 in
theorem lose_any (w : World) (g : Nat) (F : List Nat) (made : Int) (ms : List Msg) (D : List (Pair × Unit)) (hN : NetIs w g F made ms D) (hms : ms.length ≤ 1000000) (k : Int) :
    Calls Try.prog 17 #[.pointer (some ⟨g, 0, none⟩), .int .i64 k] w fun e w' => e = .returned (.int .i64 ((ms.length : Int) - ((loseS ms k).length : Int))) ∧ NetIs w' g F made (loseS ms k) D ∧ Fr w.heap.size F w w' := by
  have hF := (Fr.refl w.heap.size [] w).alloc (Nat.le_refl _) (.cells #[.int .i64 k] 3)
  have hN2 := hN.fr0 hF
  have hb6 := (Has.new w 3 [.int .i64 k]).cell 0
  have hgone : Calls Try.prog 20 #[.pointer (some ⟨g, 0, none⟩), .func (.func 28) #[] #[.pointer (some ⟨w.heap.size, 0, none⟩)]] (w.alloc (.cells #[.int .i64 k] 3)) fun e w' => e = .returned (.int .i64 ((ms.length : Int) - ((loseS ms k).length : Int))) ∧ NetIs w' g F made (loseS ms k) D ∧ Fr (w.alloc (.cells #[.int .i64 k] 3)).heap.size F (w.alloc (.cells #[.int .i64 k] 3)) w' := gone_any _ g F made ms D hN2 hms 28 #[.pointer (some ⟨w.heap.size, 0, none⟩)] (fun y => y.src == k || y.dst == k) (Go.Proofs.enters_of Try.func28 (by kernel_rfl) rfl) (fun W' hW' m _ => loseF_any W' m w.heap.size k (Nat.lt_of_lt_of_le (by simp) hW'.size) ((hW'.cell (p := ⟨w.heap.size, 0, none⟩) (by simp) (fun hk => absurd (hN.lt _ hk) (Nat.lt_irrefl _))).trans hb6))
  go_enter Try.func17, Try.ntmps17
  go_wp2_with (go_at_call 20; (refine hgone.mono ?_); rintro e w4 ⟨rfl, hN4, f4⟩)
  go_ret
  exact ⟨rfl, hN4, (hF.mono (S' := F) (Nat.le_refl _) (by simp)).trans (f4.mono hF.size fun _ h _ => h)⟩
end Go.Proofs.Ytjlpbhmhnniodaa
