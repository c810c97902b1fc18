/- Names as map keys: bytes with the bound that a string has; maps over them; what the library's contracts on keys want. -/
import Derived.Test.YtcfbbembggnanaaMaps
import Derived.Test.YtcfbbembggnanaaProg
import Derived.Test.YtcfbbembggnanaaSlices
import Derived.Test.YtcfbbembggnanaaClass
import Derived.Lib.Hide
import Derived.Outline
import Derived.Sort.KeysCollected
import Derived.Maps.Own
import Derived.Deep.Cut
import Derived.Deep.RegionWith
import Derived.WalkSpells
import Derived.Lib.Strings
namespace Go.Proofs.Ytcfbbembggnanaa
open Go.RowKit Go.Maps Go.WideElems Go.ChangeMaps Go.ChangeShapes Go.WideShapes
/-- A name: its bytes, not longer than a string can be. -/
abbrev Key := { s : List UInt8 // s.length ≤ maxLen }
instance : Inhabited Key := ⟨⟨[], Nat.zero_le _⟩⟩
def okI (a : Int) : Prop := -9223372036854775808 ≤ a ∧ a ≤ 9223372036854775807
def KV (s : Key) : Value := encStr s.1
theorem KV_inj {a b : Key} (h : KV a = KV b) : a = b := Subtype.ext (encStr_inj h)
def keyB (s : ByteArray) (h : s.size ≤ maxLen) : Key := ⟨s.data.toList, by rw [Array.length_toList]; exact h⟩
theorem KV_keyB (s : ByteArray) (h : s.size ≤ maxLen) : KV (keyB s h) = .string s := by simp [KV, keyB, encStr]
theorem keyOf_KV (s : Key) : keyOf Try.prog 9 (KV s) = some (.string s.1) := by
  simp [keyOf, Try.underlying9, mapKey, KV]
  exact s.2
theorem strEnc : KeyEnc Try.prog 9 KV (fun _ => True) where
  keyed := string_keyed Try.underlying9
  key := fun s _ => ⟨_, keyOf_KV s⟩
  inj := fun _ _ h => KV_inj h
theorem str_beq {x y : Key} {s t : ByteArray} (hs : KV x = .string s) (ht : KV y = .string t) : (s.toList == t.toList) = decide (x = y) := by
  have h1 : s = ⟨x.1.toArray⟩ := by unfold KV encStr at hs; injection hs with hs; exact hs.symm
  have h2 : t = ⟨y.1.toArray⟩ := by unfold KV encStr at ht; injection ht with ht; exact ht.symm
  rw [h1, h2, Lib.toList_data, Lib.toList_data]
  by_cases h : x = y
  · subst h; simp
  · have h2 : x.1 ≠ y.1 := fun e => h (Subtype.ext e)
    simp [h, h2]
theorem getL_cons {α β : Type} [DecidableEq α] (x : α) (y : β) (D : List (α × β)) (a : α) : getL ((x, y) :: D) a = if a = x then some y else getL D a := by
  unfold getL
  rw [List.lookup_cons]
  by_cases h : a = x
  · subst h; simp
  · rw [show (a == x) = false by simpa using h, if_neg h]
section
variable {β : Type} {encV : β → Value}
/-- The library's word of a map with names as keys. -/
theorem owns_of {w : World} {b : Nat} {D : List (Key × β)} (h : MapIs KV encV w b D) (hl : D.length ≤ maxLen) :
    ∃ D0 : DataW Unit, w.ownsMap Try.prog 9 (fun _ => some (.nil, [])) b D.length D0 ∧ Maps.size D0 = D.length ∧ (strKeys D0).Perm (D.map (·.1.1)) := by
  obtain ⟨es, clock, h1, h2, h3, h4, h5⟩ := h
  have hlen : es.toList.length = D.length := by simpa using congrArg List.length h2
  have hread : ∀ x ∈ es.toList, ∃ d ∈ D, x.key = KV d.1 := fun x hx => by
    have : (x.key, x.val) ∈ es.toList.map (fun e => (e.key, e.val)) := List.mem_map_of_mem hx
    rw [h2] at this
    obtain ⟨d, hd, he⟩ := List.mem_map.1 this
    simp only [Prod.mk.injEq] at he
    exact ⟨d, hd, he.1.symm⟩
  have hk : es.toList.map (·.key) = D.map (fun d => KV d.1) := by
    have := congrArg (List.map Prod.fst) h2
    simpa [List.map_map, Function.comp_def] using this
  refine ⟨_, ⟨es, clock, h1, ⟨by rw [← Array.length_toList]; omega, ⟨h3, h4, ?_⟩, ?_⟩, by rw [← Array.length_toList]; omega, rfl⟩, ?_, ?_⟩
  · rw [hk]
    have : D.map (fun d => KV d.1) = (D.map Prod.fst).map KV := by rw [List.map_map]; rfl
    rw [this]
    exact List.pairwise_map.2 (List.Pairwise.imp (fun hne he => hne (KV_inj he)) h5)
  · intro x hx
    obtain ⟨d, _, he⟩ := hread x hx
    exact ⟨_, by unfold WideElems.rd; rw [he, keyOf_KV]; rfl⟩
  · show ((es.toList.map _).foldr DataW.insert []).length = _
    rw [length_sorted, List.length_map, hlen]
  · show (((es.toList.map _).foldr DataW.insert []).map fun p => strOf p.1).Perm _
    refine ((sorted_perm _).map _).trans ?_
    rw [List.map_map]
    have : es.toList.map ((fun p : Lit × DataW Unit => strOf p.1) ∘ WideElems.rg Try.prog 9 (fun _ => some (.nil, []))) = D.map (·.1.1) := by
      have e : ∀ x ∈ es.toList, ((fun p : Lit × DataW Unit => strOf p.1) ∘ WideElems.rg Try.prog 9 (fun _ => some (.nil, []))) x = (fun v => match v with | Value.string s => s.data.toList | _ => []) x.key := fun x hx => by
        obtain ⟨d, _, he⟩ := hread x hx
        simp only [Function.comp, WideElems.rg, WideElems.rd]
        rw [he, keyOf_KV]
        simp [strOf, KV, encStr]
      rw [List.map_congr_left e]
      have e2 := congrArg (List.map (fun v => match v with | Value.string s => s.data.toList | _ => [])) hk
      rw [List.map_map, List.map_map] at e2
      refine Eq.trans ?_ (e2.trans ?_)
      · rfl
      · exact List.map_congr_left fun d _ => by simp [Function.comp, KV, encStr]
    rw [this]
end
theorem name_of {A : Option Addr} {w : World} {N : Nat} {xs : List Key} (h : ARow w N A (xs.map KV)) (k : Nat) (hk : k < xs.length) : ∃ blk o, A = some ⟨blk, o, none⟩ ∧ blk < N ∧ w.cell? ⟨blk, o + k, none⟩ = some (KV xs[k]) := by
  rcases h with h | ⟨blk, o, hA, hb, hr⟩
  · simp at h; subst h; simp at hk
  · exact ⟨blk, o, hA, hb, hr k _ (by simp [hk])⟩
theorem lit_row (W : World) (xs : List Key) : ARow (W.alloc (.cells (xs.map KV).toArray 9)) (W.alloc (.cells (xs.map KV).toArray 9)).heap.size (some ⟨W.heap.size, 0, none⟩) (xs.map KV) := by
  have h := Has.new W 9 (xs.map KV)
  refine .inr ⟨_, 0, rfl, h.lt, ?_⟩
  have := h.range 0 (xs.map KV).length
  rw [List.drop_zero, List.take_length] at this
  exact this
theorem own_slice {w : World} {base e size n : Nat} {v : Value} {xs : List Value} (h : w.ownsRow base e size v n xs) : ∃ A cp, v = .slice A n cp := by
  rcases h.2 with ⟨h1, h2⟩ | ⟨g, cap, cur, h1, _⟩
  · subst h2; exact ⟨none, 0, h1⟩
  · exact ⟨_, cap, h1⟩
/-- The blocks of K hold the same. -/
def Kp (K : List Nat) (W W' : World) : Prop := ∀ k ∈ K, W'.heap[k]? = W.heap[k]?
section
variable {K : List Nat} {W W' : World}
theorem Kp.refl : Kp K W W := fun _ _ => rfl
theorem Kp.trans {W2 : World} (h : Kp K W W') (h2 : Kp K W' W2) : Kp K W W2 := fun k hk => (h2 k hk).trans (h k hk)
theorem Kp.sub (h : Kp K W W') {K' : List Nat} (hK : ∀ k ∈ K', k ∈ K) : Kp K' W W' := fun k hk => h k (hK k hk)
theorem Kp.cell (h : Kp K W W') {b o : Nat} (hb : b ∈ K) {v : Option Value} (hc : W.cell? ⟨b, o, none⟩ = v) : W'.cell? ⟨b, o, none⟩ = v := by
  rw [← hc]
  unfold World.cell?
  simp only [h b hb]
theorem Kp.has (h : Kp K W W') {b t : Nat} {cs : List Value} (hb : b ∈ K) (hc : Has W b t cs) : Has W' b t cs := (h b hb).trans hc
theorem Kp.of_fr {N : Nat} {S : List Nat} (h : Fr N S W W') (hK : ∀ k ∈ K, k < N ∧ k ∉ S) : Kp K W W' := fun k hk => h.block k (hK k hk).1 (hK k hk).2
end
end Go.Proofs.Ytcfbbembggnanaa
