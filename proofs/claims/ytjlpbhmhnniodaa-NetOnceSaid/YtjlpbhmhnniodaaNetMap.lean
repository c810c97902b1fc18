/- Joined. -/
import Derived.Test.YtjlpbhmhnniodaaNetSpec
import Derived.Test.YtjlpbhmhnniodaaClass
import Derived.Deep.Cut
import Derived.Deep.RegionWith
import Derived.WalkSpells
namespace Go.Proofs.Ytjlpbhmhnniodaa
open Go.RowKit Go.Maps
open Nt
namespace Nt
def joinB (D : List (Pair × Unit)) (a b : Int) : Bool := !(getL D (ofP a b)).isSome
/-- The map of cuts. -/
def CutsIs (w : World) (mp : Value) (F : List Nat) (D : List (Pair × Unit)) : Prop := (mp = .map none ∧ D = []) ∨ ∃ b, mp = .map (some b) ∧ MapIs KP VT w b D ∧ b ∈ F
/-- A net in block g; its blocks are F. -/
structure NetIs (w : World) (g : Nat) (F : List Nat) (made : Int) (ms : List Msg) (D : List (Pair × Unit)) : Prop where
  ex : ∃ sl mp, Has w g 46 [.int .i64 made, sl, mp] ∧ w.ownsRow 0 34 4 sl ms.length (ms.flatMap Msg.cells) ∧ (∀ k, sl.ownBlock = some k → k ∈ F) ∧ CutsIs w mp F D
  self : g ∈ F
  lt : ∀ k ∈ F, k < w.heap.size
  cuts : ∀ d ∈ D, okP d.1
  msgs : ∀ m ∈ ms, okI m.n ∧ okI m.src ∧ okI m.dst
end Nt
theorem Nt.CutsIs.fr {w w' : World} {mp : Value} {F : List Nat} {D : List (Pair × Unit)} {B : Nat} {S : List Nat} (h : CutsIs w mp F D) (hF : ∀ k ∈ F, k < B) (hS : ∀ k ∈ F, k ∉ S) (hf : Fr B S w w') : CutsIs w' mp F D := by
  rcases h with h | ⟨b, h1, h2, h3⟩
  · exact .inl h
  · exact .inr ⟨b, h1, h2.fr hf (hF b h3) (hS b h3), h3⟩
theorem ownsRow_fr {w w' : World} {base e size n : Nat} {v : Value} {xs : List Value} {B : Nat} {S : List Nat} (h : w.ownsRow base e size v n xs) (hF : ∀ k, v.ownBlock = some k → k < B ∧ k ∉ S) (hf : Fr B S w w') : w'.ownsRow base e size v n xs := by
  refine ⟨h.1, ?_⟩
  rcases h.2 with h0 | ⟨g, cap, cur, rfl, hb, hg, r⟩
  · exact .inl h0
  · obtain ⟨h1, h2⟩ := hF g rfl
    exact .inr ⟨g, cap, cur, rfl, hb, (hf.block g h1 h2).trans hg, r⟩
theorem Nt.NetIs.fr {w w' : World} {g : Nat} {F : List Nat} {made : Int} {ms : List Msg} {D : List (Pair × Unit)} {B : Nat} {S : List Nat} (h : NetIs w g F made ms D) (hF : ∀ k ∈ F, k < B) (hS : ∀ k ∈ F, k ∉ S) (hf : Fr B S w w') : NetIs w' g F made ms D := by
  obtain ⟨sl, mp, h1, h2, h3, h4⟩ := h.ex
  exact ⟨⟨sl, mp, h1.fr hf (hF g h.self) (hS g h.self), ownsRow_fr h2 (fun k hk => ⟨hF k (h3 k hk), hS k (h3 k hk)⟩) hf, h3, h4.fr hF hS hf⟩, h.self, fun k hk => Nat.lt_of_lt_of_le (h.lt k hk) hf.size, h.cuts, h.msgs⟩
theorem Nt.NetIs.fr0 {w w' : World} {g : Nat} {F : List Nat} {made : Int} {ms : List Msg} {D : List (Pair × Unit)} (h : NetIs w g F made ms D) (hf : Fr w.heap.size [] w w') : NetIs w' g F made ms D := h.fr h.lt (by simp) hf
theorem zero_bool (w : World) : (zeroValue 4).run Try.prog w = .ok (.bool false) w := Try.zeroValue4 w
theorem cuts_look {w : World} {mp : Value} {F : List Nat} {D : List (Pair × Unit)} (h : CutsIs w mp F D) (hD : ∀ d ∈ D, okP d.1) {p : Pair} (hp : okP p) : (Instr.lookup 44 mp (KP p) false).run Try.prog w = .ok (.bool (getL D p).isSome) w := by
  rcases h with ⟨rfl, rfl⟩ | ⟨b, rfl, h, _⟩
  · obtain ⟨l, hl⟩ := pairEnc.key p hp
    simp [Instr.lookup, run_underlying Try.underlying44, pairEnc.keyed.check w _ hl, Instr.findKey, Instr.findNow, run_underlying Try.underlying51, zero_bool w, Result.andThen]
    rfl
  · rw [h.look pairEnc Try.underlying44 hD (zero_bool w) hp]
    cases hl : getL D p <;> rfl
set_option maxHeartbeats 1000000 in
theorem joined_nil (w : World) (a b : Int) : Calls Try.prog 12 #[.pointer none, .int .i64 a, .int .i64 b] w fun e w' => e = .returned (.bool true) ∧ Fr w.heap.size [] w w' := by
  go_enter Try.func12, Try.ntmps12
  go_wp2
  go_region
  all_goals
    go_wp2
    go_ret
    exact ⟨rfl, (Fr.refl w.heap.size [] w).drew⟩
set_option maxHeartbeats 1000000 in
theorem joined_any (w : World) (g : Nat) (F : List Nat) (made : Int) (ms : List Msg) (D : List (Pair × Unit)) (h : NetIs w g F made ms D) (a b : Int) (ha : okI a) (hb : okI b) :
    Calls Try.prog 12 #[.pointer (some ⟨g, 0, none⟩), .int .i64 a, .int .i64 b] w fun e w' => e = .returned (.bool (joinB D a b)) ∧ Fr w.heap.size [] w w' := by
  obtain ⟨sl, mp, h1, h2, h3, h4⟩ := h.ex
  have hgl := h.lt g h.self
  have hp := okP_of ha hb
  have hl := h.cuts
  unfold joinB
  obtain ⟨lk, hlk⟩ : ∃ lk, (getL D (ofP a b)).isSome = lk := ⟨_, rfl⟩
  have hlook : ∀ W, Fr w.heap.size [] w W → (Instr.lookup 44 mp (KP (ofP a b)) false).run Try.prog W = .ok (.bool lk) W := fun W hW => by rw [cuts_look (h4.fr h.lt (by simp) hW) hl hp, hlk]
  have hcell : ∀ W, Fr w.heap.size [] w W → W.cell? ⟨g, 2, none⟩ = some mp := fun W hW => (h1.fr hW hgl (by simp)).cell 2
  rw [hlk]
  go_enter Try.func12, Try.ntmps12
  go_upto_region 1 with (fail)
  refine wp_region_class (fun W => Fr w.heap.size [] w W) (by kernel_rfl) (by kernel_rfl) ((Fr.refl w.heap.size [] w).drew) ?_
  repeat
    first
      | (refine wpQuiet_skip (by rfl) ?_; try simp only [Act.put, List.setIfInBounds_toArray, List.set_cons_zero, List.set_cons_succ])
      | (refine wpQuiet_take (by rfl) ?_
         apply Exists.intro
         refine ⟨fun W hW => ?_, ?_⟩
         · first
             | ((have c := hcell _ hW; go_simp); done)
             | ((have c := hlook _ hW; go_simp); done)
             | (go_simp; done)
             | (go_simp; exact rfl)
             | (go_simp; (try refine ⟨rfl, ?_⟩); (go_at_call 18; exact (of_any W a b).mono fun e w' ⟨he, hf⟩ => ⟨he, hW.trans (hf.mono hW.size (by simp))⟩); done)
         try simp only [Act.put, List.setIfInBounds_toArray, List.set_cons_zero, List.set_cons_succ])
  refine wpQuiet_nil ?_
  intro wq hq
  go_wp2
  go_ret
  exact ⟨rfl, hq⟩
theorem has_ne_map {α β : Type} {encK : α → Value} {encV : β → Value} {w : World} {g b : Nat} {t : TypeId} {cs : List Value} {D : List (α × β)} (h : Has w g t cs) (hm : MapIs encK encV w b D) : g ≠ b := by
  intro e
  obtain ⟨es, clock, hb, _⟩ := hm
  unfold Has at h
  rw [e, hb] at h
  cases h
theorem row_ne_map {α β : Type} {encK : α → Value} {encV : β → Value} {w : World} {base e size n b : Nat} {v : Value} {xs : List Value} {D : List (α × β)} (h : w.ownsRow base e size v n xs) (hm : MapIs encK encV w b D) : v.ownBlock ≠ some b := by
  intro e
  obtain ⟨es, clock, hb, _⟩ := hm
  rcases h.2 with ⟨rfl, _⟩ | ⟨g, cap, cur, rfl, _, hg, _⟩
  · cases e
  · have : g = b := by injection e
    rw [this, hb] at hg
    cases hg
theorem ownsRow_one {w w' : World} {base e size n b : Nat} {v : Value} {xs : List Value} (h : w.ownsRow base e size v n xs) (o : One b w w') (hne : v.ownBlock ≠ some b) : w'.ownsRow base e size v n xs := by
  refine ⟨h.1, ?_⟩
  rcases h.2 with h0 | ⟨g, cap, cur, rfl, hb, hg, r⟩
  · exact .inl h0
  · exact .inr ⟨g, cap, cur, rfl, hb, (o.block g (fun e => hne (by rw [e]; rfl))).trans hg, r⟩
def Nt.cutS (D : List (Pair × Unit)) (a c : Int) : List (Pair × Unit) := if a = c then D else putL D (ofP a c) ()
set_option maxHeartbeats 1000000 in
theorem cut_nil (w : World) (a b : Int) : Calls Try.prog 10 #[.pointer none, .int .i64 a, .int .i64 b] w fun e w' => e = .returned (.tuple #[]) ∧ Fr w.heap.size [] w w' := by
  go_enter Try.func10, Try.ntmps10
  go_wp2
  refine bodyPost_ret (v := .tuple #[]) (by simp [results, Try.results10, go_sem]) rfl ⟨rfl, Fr.refl _ _ _⟩
set_option maxHeartbeats 1000000 in
theorem cut_same (w : World) (g : Nat) (a : Int) : Calls Try.prog 10 #[.pointer (some ⟨g, 0, none⟩), .int .i64 a, .int .i64 a] w fun e w' => e = .returned (.tuple #[]) ∧ Fr w.heap.size [] w w' := by
  have hb : (a == a) = true := by simp
  go_enter Try.func10, Try.ntmps10
  go_wp2
  refine bodyPost_ret (v := .tuple #[]) (by simp [results, Try.results10, go_sem]) rfl ⟨rfl, Fr.refl _ _ _⟩
theorem Nt.cutS_ok {D : List (Pair × Unit)} (h : ∀ d ∈ D, okP d.1) {a c : Int} (ha : okI a) (hc : okI c) : ∀ d ∈ cutS D a c, okP d.1 := by
  intro d hd
  unfold cutS at hd
  split at hd
  · exact h d hd
  · unfold putL at hd
    split at hd
    · obtain ⟨d', hd', rfl⟩ := List.mem_map.1 hd
      by_cases he : d'.1 = ofP a c
      · rw [if_pos he]; exact okP_of ha hc
      · rw [if_neg he]; exact h d' hd'
    · rcases List.mem_append.1 hd with hd | hd
      · exact h d hd
      · simp only [List.mem_singleton] at hd; subst hd; exact okP_of ha hc
set_option maxHeartbeats 1000000 in
theorem cut_any (w : World) (g : Nat) (F : List Nat) (made : Int) (ms : List Msg) (D : List (Pair × Unit)) (h : NetIs w g F made ms D) (a c : Int) (ha : okI a) (hc : okI c) :
    Calls Try.prog 10 #[.pointer (some ⟨g, 0, none⟩), .int .i64 a, .int .i64 c] w fun e w' => e = .returned (.tuple #[]) ∧ ∃ F', NetIs w' g F' made ms (cutS D a c) ∧ Fr w.heap.size F w w' ∧ ∀ k ∈ F', k ∈ F ∨ w.heap.size ≤ k := by
  by_cases hac : a = c
  · subst hac
    unfold cutS
    rw [if_pos rfl]
    exact (cut_same w g a).mono fun e w' ⟨he, hf⟩ => ⟨he, F, h.fr0 hf, hf.mono (Nat.le_refl _) (by simp), fun k hk => .inl hk⟩
  · have hb : (a == c) = false := by simpa using hac
    have hok := cutS_ok h.cuts ha hc
    unfold cutS at hok ⊢
    rw [if_neg hac] at hok ⊢
    have hp := okP_of ha hc
    have q44 : ∀ (W : World) (r : Option Nat), (binOp .eql 44 (.map r) (.map none)).run Try.prog W = .ok (.bool r.isNone) W := fun W r => run_eql_map_nil W _ _ _ r Try.underlying44
    have hcu := h.cuts
    have hgl := h.lt g h.self
    obtain ⟨sl, mp, h1, h2, h3, ⟨rfl, rfl⟩ | ⟨b, rfl, hm, hbF⟩⟩ := h.ex
    · have c2 : w.cell? ⟨g, 2, none⟩ = some (.map none) := h1.cell 2
      have z2 := h1.frozen 2
      have hne : sl.ownBlock ≠ some g := fun e => by
        rcases h2.2 with ⟨rfl, _⟩ | ⟨g', cap, cur, rfl, _, hg, _⟩
        · cases e
        · injection e with e
          rw [show g' = g from e, h1] at hg
          injection hg with hg
          injection hg with _ hg
          revert hg
          decide
      have H := (h1.alloc (.map #[] 0)).set 2 (.map (some w.heap.size))
      have hF : Fr w.heap.size [g] w ((w.alloc (.map #[] 0)).setCell ⟨g, 2, none⟩ (.map (some w.heap.size))) := ((Fr.refl _ _ _).alloc (Nat.le_refl _) _).setCell (.inl (by simp)) _
      have hrow := ownsRow_fr h2 (S := [g]) (fun k hk => ⟨h.lt k (h3 k hk), by simp; intro e; exact hne (e ▸ hk)⟩) hF
      have hM : MapIs KP VT ((w.alloc (.map #[] 0)).setCell ⟨g, 2, none⟩ (.map (some w.heap.size))) w.heap.size ([] : List (Pair × Unit)) := (MapIs.new w).block (Below.heap_setCell _ _ _ _ (by simp; omega))
      have hsz : ((w.alloc (.map #[] 0)).setCell ⟨g, 2, none⟩ (.map (some w.heap.size))).heap.size = w.heap.size + 1 := by simp
      have c2' : ((w.alloc (.map #[] 0)).setCell ⟨g, 2, none⟩ (.map (some w.heap.size))).cell? ⟨g, 2, none⟩ = some (.map (some w.heap.size)) := H.cell 2
      obtain ⟨W1, hW1⟩ : ∃ W1, ((w.alloc (.map #[] 0)).setCell ⟨g, 2, none⟩ (.map (some w.heap.size))) = W1 := ⟨_, rfl⟩
      rw [hW1] at hF hrow hM hsz H c2'
      have hstep : ∀ W, Fr W1.heap.size [] W1 W → ∃ W', (Instr.mapUpdate 44 (.map (some w.heap.size)) (KP (ofP a c)) (.bool true)).run Try.prog W = .ok () W' ∧ MapIs KP VT W' w.heap.size (putL [] (ofP a c) ()) ∧ One w.heap.size W W' := fun W hW =>
        (hM.fr hW (by omega) (by simp)).put pairEnc Try.underlying44 (by simp) hp ()
      have hg1 : g < W1.heap.size := by omega
      have hmk : ∀ W : World, (Instr.makeMap 44 none).run Try.prog W = .ok (.map (some W.heap.size)) (W.alloc (.map #[] 0)) := fun _ => rfl
      go_enter Try.func10, Try.ntmps10
      go_upto_region 3 with (fail)
      go_region_with (go_at_call 18; (refine (of_any _ a c).mono ?_); rintro e w3 ⟨rfl, f3⟩; have hF3 := ((Fr.refl W1.heap.size [] W1).drew).trans (f3.mono (Nat.le_refl _) (by simp)); have c3 : w3.cell? ⟨g, 2, none⟩ = some (.map (some w.heap.size)) := (hF3.cell (p := ⟨g, 2, none⟩) hg1 (by simp)).trans c2'; obtain ⟨w4, hrun, h4, o4⟩ := hstep w3 hF3)
      all_goals
        refine bodyPost_end (v := .tuple #[]) (by simp [results, Try.results10, go_sem]) rfl ⟨rfl, w.heap.size :: F, ?_, ?_, ?_⟩
        · have hF4 := ((hF.trans (hF3.mono (by omega) (by simp))).one o4 (.inr (Nat.le_refl _)))
          refine ⟨⟨sl, .map (some w.heap.size), (H.fr hF3 (by omega) (by simp)).one o4 (by omega), ownsRow_one (ownsRow_fr hrow (fun k hk => ⟨by have := h.lt k (h3 k hk); omega, by simp⟩) hF3) o4 (fun e => by have := h.lt _ (h3 _ e); omega), fun k hk => by simp [h3 k hk], .inr ⟨_, rfl, h4, by simp⟩⟩, by simp [h.self], fun k hk => ?_, hok, h.msgs⟩
          have := hF4.size
          have hs3 := hF3.size
          have ho := o4.size
          rcases List.mem_cons.1 hk with rfl | hk
          · omega
          · have := h.lt k hk; omega
        · exact ((hF.trans (hF3.mono (by omega) (by simp))).one o4 (.inr (Nat.le_refl _))).mono (Nat.le_refl _) (by simp [h.self])
        · intro k hk
          rcases List.mem_cons.1 hk with rfl | hk
          · exact .inr (Nat.le_refl _)
          · exact .inl hk
    · have c2 : w.cell? ⟨g, 2, none⟩ = some (.map (some b)) := h1.cell 2
      have hbl := h.lt b hbF
      have hstep : ∀ W, Fr w.heap.size [] w W → ∃ W', (Instr.mapUpdate 44 (.map (some b)) (KP (ofP a c)) (.bool true)).run Try.prog W = .ok () W' ∧ MapIs KP VT W' b (putL D (ofP a c) ()) ∧ One b W W' := fun W hW =>
        (hm.fr hW hbl (by simp)).put pairEnc Try.underlying44 hcu hp ()
      go_enter Try.func10, Try.ntmps10
      go_wp2
      go_region_with (go_at_call 18; (refine (of_any _ a c).mono ?_); rintro e w3 ⟨rfl, f3⟩; have hF3 := ((Fr.refl w.heap.size [] w).drew).trans (f3.mono (Nat.le_refl _) (by simp)); have c3 : w3.cell? ⟨g, 2, none⟩ = some (.map (some b)) := (hF3.cell (p := ⟨g, 2, none⟩) hgl (by simp)).trans c2; obtain ⟨w4, hrun, h4, o4⟩ := hstep w3 hF3)
      all_goals
        refine bodyPost_end (v := .tuple #[]) (by simp [results, Try.results10, go_sem]) rfl ⟨rfl, F, ?_, ?_, fun k hk => .inl hk⟩
        · refine ⟨⟨sl, .map (some b), (h1.fr hF3 hgl (by simp)).one o4 (has_ne_map h1 hm), ownsRow_one (ownsRow_fr h2 (fun k hk => ⟨h.lt k (h3 k hk), by simp⟩) hF3) o4 (row_ne_map h2 hm), h3, .inr ⟨b, rfl, h4, hbF⟩⟩, h.self, fun k hk => ?_, hok, h.msgs⟩
          have hs3 := hF3.size
          have ho := o4.size
          have := h.lt k hk
          omega
        · exact (hF3.mono (Nat.le_refl _) (by simp)).one o4 (.inl hbF)
end Go.Proofs.Ytjlpbhmhnniodaa
