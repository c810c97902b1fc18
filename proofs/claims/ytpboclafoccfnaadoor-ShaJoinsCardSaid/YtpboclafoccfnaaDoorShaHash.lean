/- What a hash holds: the words of all that was written. -/
import Derived.Test.YtpboclafoccfnaaDoorShaSpec
import Derived.Test.YtpboclafoccfnaaDoorBase
namespace Go.Proofs.YtpboclafoccfnaaDoor
open Go.RowKit
namespace Sha
def hcells (a : List Int) (m : Nat) (n : Nat) (r : ByteArray) : List Value := (fs a m).vals ++ [.bool true, .string r, .int .u64 (n : Int)]
def hzero : List Value := List.replicate 8 (.int .u32 0) ++ [.bool false, .string ⟨#[]⟩, .int .u64 0]
/-- Block g is a hash to which a was written. -/
def HashIs (w : World) (g : Nat) (a : List Int) : Prop :=
  (∃ r, bl r = a.drop (64 * (a.length / 64)) ∧ Has w g 34 (hcells a (a.length / 64) a.length r)) ∨ (a = [] ∧ Has w g 34 hzero)
theorem HashIs.lt {w : World} {g : Nat} {a : List Int} (h : HashIs w g a) : g < w.heap.size := by
  rcases h with ⟨r, _, h⟩ | ⟨_, h⟩ <;> exact h.lt
theorem HashIs.fr {w w' : World} {g B : Nat} {S : List Nat} {a : List Int} (h : HashIs w g a) (hf : Fr B S w w') (hg : g < B) (hs : g ∉ S) : HashIs w' g a := by
  rcases h with ⟨r, hr, h⟩ | ⟨e, h⟩
  · exact .inl ⟨r, hr, h.fr hf hg hs⟩
  · exact .inr ⟨e, h.fr hf hg hs⟩
theorem HashIs.drew {w : World} {g : Nat} {a : List Int} (h : HashIs w g a) : HashIs w.drew g a := h
theorem HashIs.drewN {w : World} {g : Nat} {a : List Int} (h : HashIs w g a) (n : Nat) : HashIs (w.drewN n) g a := h
theorem HashIs.alloc {w : World} {g : Nat} {a : List Int} (h : HashIs w g a) (o : Obj) : HashIs (w.alloc o) g a := by
  rcases h with ⟨r, hr, h⟩ | ⟨e, h⟩
  · exact .inl ⟨r, hr, h.alloc o⟩
  · exact .inr ⟨e, h.alloc o⟩
theorem HashIs.one {w w' : World} {g g' : Nat} {a : List Int} (h : HashIs w g a) (o : One g' w w') (hne : g ≠ g') : HashIs w' g a := by
  rcases h with ⟨r, hr, h⟩ | ⟨e, h⟩
  · exact .inl ⟨r, hr, h.one o hne⟩
  · exact .inr ⟨e, h.one o hne⟩
theorem HashIs.cells {w : World} {g : Nat} {a : List Int} (h : HashIs w g a) : ∃ st : St, ∃ b : Bool, ∃ r : ByteArray, Has w g 34 (st.vals ++ [.bool b, .string r, .int .u64 (a.length : Int)]) ∧
    ∀ w' g', Has w' g' 34 (st.vals ++ [.bool b, .string r, .int .u64 (a.length : Int)]) → HashIs w' g' a := by
  rcases h with ⟨r, hr, h⟩ | ⟨rfl, h⟩
  · exact ⟨_, true, r, h, fun w' g' h' => .inl ⟨r, hr, h'⟩⟩
  · exact ⟨⟨0, 0, 0, 0, 0, 0, 0, 0⟩, false, ⟨#[]⟩, h, fun w' g' h' => .inr ⟨rfl, h'⟩⟩
theorem HashIs.state {w : World} {g : Nat} {a : List Int} (h : HashIs w g a) (ha : a ≠ []) : ∃ r, Has w g 34 ((fs a (a.length / 64)).vals ++ r) := by
  rcases h with ⟨r, hr, h⟩ | ⟨e, _⟩
  · exact ⟨_, h⟩
  · exact absurd e ha
/-- A list of texts, one behind the other. -/
def cat : List ByteArray → List Int
  | [] => []
  | p :: l => bl p ++ cat l
theorem cat_app (a b : List ByteArray) : cat (a ++ b) = cat a ++ cat b := by
  induction a with
  | nil => rfl
  | cons p a ih => simp [cat, ih]
theorem cat_take (l : List ByteArray) (k : Nat) (h : k < l.length) : cat (l.take (k + 1)) = cat (l.take k) ++ bl l[k] := by
  rw [List.take_add_one, List.getElem?_eq_getElem h, cat_app]
  simp [cat]
theorem cat_take_le (l : List ByteArray) (k : Nat) : (cat (l.take k)).length ≤ (cat l).length := by
  conv => rhs; rw [← List.take_append_drop k l, cat_app, List.length_append]
  omega
/-- The blocks that a text begins with are those of the longer one. -/
theorem fs_app (a b : List Int) : ∀ m, 64 * m ≤ a.length → fs (a ++ b) m = fs a m := by
  intro m
  induction m with
  | zero => intro _; rfl
  | succ m ih =>
    intro h
    show feed (fs (a ++ b) m) _ = feed (fs a m) _
    rw [ih (by omega), List.drop_append_of_le_length (by omega), List.take_append_of_le_length (by rw [List.length_drop]; omega)]
/-- The constants stand in variable 0. -/
def Kst (w : World) : Prop := w.rangeAt 0 0 (ks.map (Value.int .u32)) ∧ 0 < w.heap.size
theorem Kst.fr {w w' : World} {B : Nat} {S : List Nat} (h : Kst w) (hf : Fr B S w w') (hB : 0 < B) (hS : 0 ∉ S) : Kst w' :=
  ⟨fun j v hv => by rw [hf.cell (p := ⟨0, 0 + j, none⟩) hB hS]; exact h.1 j v hv, by have := hf.size; have := h.2; omega⟩
theorem Kst.drew {w : World} (h : Kst w) : Kst w.drew := h
theorem Kst.drewN {w : World} (h : Kst w) (n : Nat) : Kst (w.drewN n) := h
theorem Kst.alloc {w : World} (h : Kst w) (o : Obj) : Kst (w.alloc o) := ⟨World.rangeAt_alloc h.1 o, by simp⟩
theorem Kst.ne {w : World} {g : Nat} {t : TypeId} {cs : List Value} (h : Kst w) (hg : Has w g t cs) (hl : cs.length < 64) : g ≠ 0 := by
  rintro rfl
  have h1 := h.1 63 (.int .u32 3329325298) rfl
  rw [hg.cell, List.getElem?_eq_none (by omega)] at h1
  cases h1
theorem hcells_len (a : List Int) (m n : Nat) (r : ByteArray) : (hcells a m n r).length = 11 := rfl
theorem hzero_len : hzero.length = 11 := rfl
theorem HashIs.ne {w : World} {g : Nat} {a : List Int} (h : HashIs w g a) (hK : Kst w) : g ≠ 0 := by
  rcases h with ⟨r, _, h⟩ | ⟨_, h⟩
  · exact hK.ne h (by rw [hcells_len]; omega)
  · exact hK.ne h (by rw [hzero_len]; omega)
/-- A slice of texts: where they lie (not in block g). -/
def Parts (w : World) (g : Nat) (A : Option Addr) (ps : List ByteArray) : Prop :=
  ps = [] ∨ ∃ b o, A = some ⟨b, o, none⟩ ∧ b < w.heap.size ∧ b ≠ g ∧ ∀ k, (h : k < ps.length) → w.cell? ⟨b, o + k, none⟩ = some (.string ps[k])
theorem Parts.at {w : World} {g : Nat} {A : Option Addr} {ps : List ByteArray} (h : Parts w g A ps) (k : Nat) (hk : k < ps.length) :
    ∃ b o, A = some ⟨b, o, none⟩ ∧ b < w.heap.size ∧ b ≠ g ∧ w.cell? ⟨b, o + k, none⟩ = some (.string ps[k]) := by
  rcases h with rfl | ⟨b, o, h1, h2, h3, h4⟩
  · simp at hk
  · exact ⟨b, o, h1, h2, h3, h4 k hk⟩
theorem Parts.alloc {w : World} {g : Nat} {A : Option Addr} {ps : List ByteArray} (h : Parts w g A ps) (o : Obj) : Parts (w.alloc o) g A ps := by
  rcases h with h | ⟨b, o', h1, h2, h3, h4⟩
  · exact .inl h
  · exact .inr ⟨b, o', h1, by simp; omega, h3, fun k hk => (World.cell?_alloc_lt w o _ h2).trans (h4 k hk)⟩
theorem Parts.fr {w w' : World} {g g' B : Nat} {S : List Nat} {A : Option Addr} {ps : List ByteArray} (h : Parts w g A ps) (hf : Fr B S w w') (hB : w.heap.size ≤ B) (hS : ∀ k ∈ S, k = g) (hg : ∀ b, b < w.heap.size → b ≠ g → b ≠ g') : Parts w' g' A ps := by
  rcases h with h | ⟨b, o', h1, h2, h3, h4⟩
  · exact .inl h
  · exact .inr ⟨b, o', h1, by have := hf.size; omega, hg b h2 h3, fun k hk => (hf.cell (p := ⟨b, o' + k, none⟩) (by show b < B; omega) (fun hb => h3 (hS b hb))).trans (h4 k hk)⟩
end Sha
end Go.Proofs.YtpboclafoccfnaaDoor
