/- Wheels: what stands in memory; look-ups. -/
import Derived.Test.YtkclpkepmckjgaaMaps
import Derived.Test.YtkclpkepmckjgaaProg
import Derived.Test.YtkclpkepmckjgaaSlices
import Derived.Test.YtkclpkepmckjgaaClass
import Derived.Lib.Hide
import Derived.Outline
import Derived.Sort.KeysCollected
import Derived.Maps.Own
import Derived.Deep.Cut
import Derived.Deep.RegionWith
import Derived.WalkSpells
namespace Go.Proofs.Ytkclpkepmckjgaa
open Go.RowKit Go.Maps Go.WideElems Go.ChangeMaps Go.ChangeShapes Go.WideShapes
namespace Wh
/-- A name: its bytes, not longer than a string can be. -/
abbrev Key := { s : List UInt8 // s.length ≤ maxLen }
instance : Inhabited Key := ⟨⟨[], Nat.zero_le _⟩⟩
structure Tm where
  at_ : Int
  ord : Int
deriving Inhabited
def okI (a : Int) : Prop := -9223372036854775808 ≤ a ∧ a ≤ 9223372036854775807
def KV (s : Key) : Value := encStr s.1
def TV (t : Tm) : Value := .agg #[.int .i64 t.at_, .int .i64 t.ord]
def zT : Tm := ⟨0, 0⟩
theorem KV_inj {a b : Key} (h : KV a = KV b) : a = b := Subtype.ext (encStr_inj h)
/-- The map of timers. -/
def MapOf (w : World) (mp : Value) (F : List Nat) (D : List (Key × Tm)) : Prop := (mp = .map none ∧ D = []) ∨ ∃ b, mp = .map (some b) ∧ MapIs KV TV w b D ∧ b ∈ F
/-- A wheel in block g; its blocks are F. -/
structure WhIs (w : World) (g : Nat) (F : List Nat) (n : Int) (D : List (Key × Tm)) : Prop where
  ex : ∃ mp, Has w g 49 [mp, .int .i64 n] ∧ MapOf w mp F D
  self : g ∈ F
  lt : ∀ k ∈ F, k < w.heap.size
theorem MapOf.fr {w w' : World} {mp : Value} {F : List Nat} {D : List (Key × Tm)} {B : Nat} {S : List Nat} (h : MapOf w mp F D) (hF : ∀ k ∈ F, k < B) (hS : ∀ k ∈ F, k ∉ S) (hf : Fr B S w w') : MapOf w' mp F D := by
  rcases h with h | ⟨b, h1, h2, h3⟩
  · exact .inl h
  · exact .inr ⟨b, h1, h2.fr hf (hF b h3) (hS b h3), h3⟩
theorem WhIs.fr {w w' : World} {g : Nat} {F : List Nat} {n : Int} {D : List (Key × Tm)} {B : Nat} {S : List Nat} (h : WhIs w g F n D) (hF : ∀ k ∈ F, k < B) (hS : ∀ k ∈ F, k ∉ S) (hf : Fr B S w w') : WhIs w' g F n D := by
  obtain ⟨mp, h1, h4⟩ := h.ex
  exact ⟨⟨mp, h1.fr hf (hF g h.self) (hS g h.self), h4.fr hF hS hf⟩, h.self, fun k hk => Nat.lt_of_lt_of_le (h.lt k hk) hf.size⟩
theorem WhIs.fr0 {w w' : World} {g : Nat} {F : List Nat} {n : Int} {D : List (Key × Tm)} (h : WhIs w g F n D) (hf : Fr w.heap.size [] w w') : WhIs w' g F n D := h.fr h.lt (by simp) hf
end Wh
open Wh
theorem keyOf_KV (s : Key) : keyOf Try.prog 9 (KV s) = some (.string s.1) := by
  simp [keyOf, Try.underlying9, mapKey, KV]
  exact s.2
theorem strEnc : KeyEnc Try.prog 9 KV (fun _ => True) where
  keyed := string_keyed Try.underlying9
  key := fun s _ => ⟨_, keyOf_KV s⟩
  inj := fun _ _ h => KV_inj h
theorem zero_tm (w : World) : (zeroValue 55).run Try.prog w = .ok (TV zT) w := Try.zeroValue55 w
theorem timers_look {w : World} {mp : Value} {F : List Nat} {D : List (Key × Tm)} (h : MapOf w mp F D) (p : Key) : (Instr.lookup 47 mp (KV p) false).run Try.prog w = .ok (TV ((getL D p).getD zT)) w := by
  rcases h with ⟨rfl, rfl⟩ | ⟨b, rfl, h, _⟩
  · simp [Instr.lookup, run_underlying Try.underlying47, strEnc.keyed.check w _ (keyOf_KV p), Instr.findKey, Instr.findNow, run_underlying Try.underlying9, zero_tm w, Result.andThen]
    rfl
  · rw [h.look strEnc Try.underlying47 (fun _ _ => trivial) (zero_tm w) trivial]
    cases hl : getL D p <;> rfl
theorem timers_look2 {w : World} {mp : Value} {F : List Nat} {D : List (Key × Tm)} (h : MapOf w mp F D) (p : Key) : (Instr.lookup 47 mp (KV p) true).run Try.prog w = .ok (.tuple #[TV ((getL D p).getD zT), .bool (getL D p).isSome]) w := by
  rcases h with ⟨rfl, rfl⟩ | ⟨b, rfl, h, _⟩
  · simp [Instr.lookup, run_underlying Try.underlying47, strEnc.keyed.check w _ (keyOf_KV p), Instr.findKey, Instr.findNow, run_underlying Try.underlying9, zero_tm w, Result.andThen]
    exact ⟨rfl, rfl⟩
  · rw [h.look_ok strEnc Try.underlying47 (fun _ _ => trivial) (zero_tm w) trivial]
    cases hl : getL D p <;> rfl
/-- The library's word of the map. -/
theorem owns_of {w : World} {b : Nat} {D : List (Key × Tm)} (h : MapIs KV TV w b D) (hl : D.length ≤ maxLen) :
    ∃ D0 : DataW Unit, w.ownsMap Try.prog 9 (fun _ => some (.nil, [])) b D.length D0 ∧ Maps.size D0 = D.length ∧ (strKeys D0).Perm (D.map (·.1.1)) := by
  obtain ⟨es, clock, h1, h2, h3, h4, h5⟩ := h
  have hlen : es.toList.length = D.length := by simpa using congrArg List.length h2
  have hread : ∀ x ∈ es.toList, ∃ d ∈ D, x.key = KV d.1 := fun x hx => by
    have : (x.key, x.val) ∈ es.toList.map (fun e => (e.key, e.val)) := List.mem_map_of_mem hx
    rw [h2] at this
    obtain ⟨d, hd, he⟩ := List.mem_map.1 this
    simp only [Prod.mk.injEq] at he
    exact ⟨d, hd, he.1.symm⟩
  have hk : es.toList.map (·.key) = D.map (fun d => KV d.1) := by
    have := congrArg (List.map Prod.fst) h2
    simpa [List.map_map, Function.comp_def] using this
  refine ⟨_, ⟨es, clock, h1, ⟨by rw [← Array.length_toList]; omega, ⟨h3, h4, ?_⟩, ?_⟩, by rw [← Array.length_toList]; omega, rfl⟩, ?_, ?_⟩
  · rw [hk]
    have : D.map (fun d => KV d.1) = (D.map Prod.fst).map KV := by rw [List.map_map]; rfl
    rw [this]
    exact List.pairwise_map.2 (List.Pairwise.imp (fun hne he => hne (KV_inj he)) h5)
  · intro x hx
    obtain ⟨d, _, he⟩ := hread x hx
    exact ⟨_, by unfold WideElems.rd; rw [he, keyOf_KV]; rfl⟩
  · show ((es.toList.map _).foldr DataW.insert []).length = _
    rw [length_sorted, List.length_map, hlen]
  · show (((es.toList.map _).foldr DataW.insert []).map fun p => strOf p.1).Perm _
    refine ((sorted_perm _).map _).trans ?_
    rw [List.map_map]
    have : es.toList.map ((fun p : Lit × DataW Unit => strOf p.1) ∘ WideElems.rg Try.prog 9 (fun _ => some (.nil, []))) = D.map (·.1.1) := by
      have e : ∀ x ∈ es.toList, ((fun p : Lit × DataW Unit => strOf p.1) ∘ WideElems.rg Try.prog 9 (fun _ => some (.nil, []))) x = (fun v => match v with | Value.string s => s.data.toList | _ => []) x.key := fun x hx => by
        obtain ⟨d, _, he⟩ := hread x hx
        simp only [Function.comp, WideElems.rg, WideElems.rd]
        rw [he, keyOf_KV]
        simp [strOf, KV, encStr]
      rw [List.map_congr_left e]
      have e2 := congrArg (List.map (fun v => match v with | Value.string s => s.data.toList | _ => [])) hk
      rw [List.map_map, List.map_map] at e2
      refine Eq.trans ?_ (e2.trans ?_)
      · rfl
      · exact List.map_congr_left fun d _ => by simp [Function.comp, KV, encStr]
    rw [this]
end Go.Proofs.Ytkclpkepmckjgaa
