/- Merge as a plain contract; Norm. -/
import Derived.Test.YtcemlacfldonlaaClkMerge
namespace Go.Proofs.Ytcemlacfldonlaa
open Go.RowKit Go.Shelf
open Ck
theorem fr_of_below {B : Nat} {w w' : World} (h : Below B w w') : Fr B [] w w' := ⟨h.os, h.tape, h.output, h.size, fun k hk _ => h.block k hk⟩
theorem merge_any (w : World) (a : Option Addr) (len cap : Nat) (L : List (List Dot)) (hL : L.length ≤ 1000000) (hds : ∀ ds ∈ L, ds.length ≤ 8796093022208) (hLL : L.flatten.length ≤ 8796093022208) (hC : ClksAt w.heap.size w (.slice a len cap) L) :
    Calls Try.prog 29 #[.slice a len cap] w fun e w' => (∃ v out, e = .returned v ∧ w'.ownsRow w.heap.size 92 2 v out.length (out.flatMap Dot.cells) ∧ Canon out L.flatten ∧ out.length ≤ L.flatten.length) ∧ Fr w.heap.size [] w w' :=
  (callsIn_wide.1 (merge_in w a len cap L hL hds hLL hC)).mono fun _ _ ⟨v, out, h1, h2, h3, h4, h5⟩ => ⟨⟨v, out, h1, h2, h3, h4⟩, fr_of_below h5⟩

theorem own_len1 {w : World} {base e size n : Nat} {v : Value} {xs : List Value} (h : w.ownsRow base e size v n xs) : ∃ A cp, v = .slice A n cp := by
  rcases h.2 with ⟨rfl, h0⟩ | ⟨gb, cap, cur, rfl, _⟩
  · exact ⟨none, 0, by rw [h0]⟩
  · exact ⟨_, _, rfl⟩
def Ck.ClkIn (w : World) (v : Value) (ds : List Dot) : Prop := ClkAt w.heap.size w v ds
theorem clkIn_own {w : World} {base : Nat} {v : Value} {ds : List Dot} (h : w.ownsRow base 92 2 v ds.length (ds.flatMap Dot.cells)) : ClkIn w v ds := by
  obtain ⟨A, c, h1, h2⟩ := own_arow h
  exact ⟨A, c, h1, h2⟩
theorem clkIn_fr {w w' : World} {v : Value} {ds : List Dot} (h : ClkIn w v ds) (hf : Fr w.heap.size [] w w') : ClkIn w' v ds := by
  obtain ⟨A, c, h1, h2⟩ := h
  exact ⟨A, c, h1, (h2.fr hf (Nat.le_refl _) (by simp)).mono hf.size⟩
/-- The clocks of a call, in a block of their own. -/
theorem clks_new {w : World} {vs : List Value} {L : List (List Dot)} (hl : vs.length = L.length) (h : ∀ (j : Nat) (v : Value) (ds : List Dot), vs[j]? = some v → L[j]? = some ds → ClkIn w v ds) : ClksAt (w.alloc (.cells vs.toArray 31)).heap.size (w.alloc (.cells vs.toArray 31)) (.slice (some ⟨w.heap.size, 0, none⟩) L.length L.length) L :=
  ⟨_, _, vs, rfl, hl, .inr ⟨w.heap.size, 0, rfl, by simp, fun j u hu => by rw [Nat.zero_add, (Has.new w 31 vs).cell]; exact hu⟩, fun j v ds hv hd => clkIn_fr (h j v ds hv hd) ((Fr.refl _ _ _).alloc (Nat.le_refl _) _)⟩
set_option maxHeartbeats 1000000 in
theorem norm_any (w : World) (v : Value) (ds : List Dot) (hds : ds.length ≤ 8796093022208) (h : ClkIn w v ds) :
    Calls Try.prog 34 #[v] w fun e w' => (∃ v' out, e = .returned v' ∧ w'.ownsRow w.heap.size 92 2 v' out.length (out.flatMap Dot.cells) ∧ Canon out ds ∧ out.length ≤ ds.length) ∧ Fr w.heap.size [] w w' := by
  have hC := clks_new (w := w) (vs := [v]) (L := [ds]) rfl (fun j u es hu he => by
    cases j with
    | zero => simp at hu he; subst hu he; exact h
    | succ j => simp at hu)
  have hm := merge_any _ _ _ _ [ds] (by simp) (by simp; omega) (by simpa using hds) hC
  obtain ⟨A, c, rfl, _⟩ := h
  have hF := (Fr.refl w.heap.size [] w).alloc (Nat.le_refl _) (.cells #[.slice A ds.length c] 31)
  go_enter Try.func34, Try.ntmps34
  go_wp2_with (go_at_call 29; (refine hm.mono ?_); rintro e w1 ⟨⟨v', out, rfl, h1, h2, h3⟩, f1⟩; obtain ⟨A1, c1, rfl⟩ := own_len1 h1)
  go_ret
  exact ⟨⟨_, out, rfl, row_base h1 (by simp), by simpa using h2, by simpa using h3⟩, hF.trans (f1.mono hF.size (by simp))⟩
end Go.Proofs.Ytcemlacfldonlaa
