/- Heal at a net. -/
import Derived.Test.YtjlpbhmhnniodaaNetSend
import Derived.Test.YtjlpbhmhnniodaaMapLeft
import Derived.Laws.IdiomRangeMap
namespace Go.Proofs.Ytjlpbhmhnniodaa
open Go.RowKit Go.Maps
open Nt
def Nt.healP (xs : List Int) (p : Pair) : Bool := decide (xs.length = 0) || hasB p xs
/-- The cuts that stay. -/
def Nt.healS (D : List (Pair × Unit)) (xs : List Int) : List (Pair × Unit) := D.filter fun d => !healP xs d.1
theorem Nt.NetIs.recut {w w' : World} {g : Nat} {F : List Nat} {made : Int} {ms : List Msg} {D D1 : List (Pair × Unit)} {sl : Value} {b : Nat} (hN : NetIs w g F made ms D) (h1 : Has w g 46 [.int .i64 made, sl, .map (some b)])
    (h2 : w.ownsRow 0 34 4 sl ms.length (ms.flatMap Msg.cells)) (h3 : ∀ k, sl.ownBlock = some k → k ∈ F) (hm : MapIs KP VT w b D) (hbF : b ∈ F) (hf : Fr w.heap.size [b] w w') (hm1 : MapIs KP VT w' b D1) (hok : ∀ d ∈ D1, okP d.1) : NetIs w' g F made ms D1 := by
  have hb1 := has_ne_map h1 hm
  have hb2 := row_ne_map h2 hm
  exact ⟨⟨sl, _, h1.fr hf (hN.lt g hN.self) (by simpa using hb1), ownsRow_fr h2 (fun k hk => ⟨hN.lt k (h3 k hk), by simp; intro e; exact hb2 (e ▸ hk)⟩) hf, h3, .inr ⟨b, rfl, hm1, hbF⟩⟩, hN.self, fun k hk => Nat.lt_of_lt_of_le (hN.lt k hk) hf.size, hok, hN.msgs⟩
theorem ARow.fr1 {w w' : World} {N B : Nat} {S : List Nat} {A : Option Addr} {vs : List Value} (h : ARow w N A vs) (hf : Fr B S w w') (hB : N ≤ B) (hS : ∀ blk o, A = some ⟨blk, o, none⟩ → blk ∉ S) : ARow w' N A vs := by
  rcases h with h | ⟨blk, o, hA, hb, hr⟩
  · exact .inl h
  · exact .inr ⟨blk, o, hA, hb, fun j u hu => (hf.cell (p := ⟨blk, o + j, none⟩) (Nat.lt_of_lt_of_le hb hB) (hS blk o hA)).trans (hr j u hu)⟩
theorem Nt.healS_all {D : List (Pair × Unit)} {xs : List Int} (h : ∀ d ∈ D, healP xs d.1 = false) : healS D xs = D := List.filter_eq_self.2 fun d hd => by rw [h d hd]; rfl
theorem Nt.healS_less {D : List (Pair × Unit)} {xs : List Int} {p : Pair} (h : healP xs p = true) : healS (D.filter fun z => decide (z.1 ≠ p)) xs = healS D xs := by
  unfold healS
  rw [List.filter_filter]
  refine List.filter_congr fun d hd => ?_
  by_cases e : d.1 = p
  · rw [e, h]; rfl
  · simp [e]
set_option maxHeartbeats 2000000 in
theorem heal_any (w : World) (g : Nat) (F : List Nat) (made : Int) (ms : List Msg) (D : List (Pair × Unit)) (hN : NetIs w g F made ms D) (hDl : D.length ≤ 1000000) (A : Option Addr) (c : Nat) (xs : List Int) (hA : ARow w w.heap.size A (xs.map (Value.int .i64))) (hAF : ∀ blk o, A = some ⟨blk, o, none⟩ → blk ∉ F) (hb : xs.length ≤ 1000000) :
    Calls Try.prog 13 #[.pointer (some ⟨g, 0, none⟩), .slice A xs.length c] w fun e w' => e = .returned (.int .i64 ((D.length : Int) - (healS D xs).length)) ∧ NetIs w' g F made ms (healS D xs) ∧ Fr w.heap.size F w w' := by
  have hgl := hN.lt g hN.self
  have hgF := hN.self
  obtain ⟨sl, mp, h1, h2, h3, ⟨rfl, rfl⟩ | ⟨b, rfl, hm, hbF⟩⟩ := hN.ex
  · have c2 : w.cell? ⟨g, 2, none⟩ = some (.map none) := h1.cell 2
    have hrg := run_range_nilMap (P := Try.prog) w 44 _ _ Try.underlying44
    have hnx : ∀ ty, (Instr.next (.pointer (some ⟨w.heap.size, 0, none⟩)) false ty).run Try.prog (w.alloc (.mapIter none 0 #[] 0)) = _ := fun ty => run_next_nilMap w ty 0 0 #[]
    go_enter Try.func13, Try.ntmps13
    go_wp2
    go_loopw [5] (fun h wr => h = .int .i64 0 ∧ wr = w.alloc (.mapIter none 0 #[] 0)) (fun _ _ => 0)
    case atStart => exact ⟨rfl, rfl⟩
    case round =>
      obtain ⟨rfl, rfl⟩ := hrel
      go_wp2
      go_ret
      have hF := (Fr.refl w.heap.size [] w).alloc (Nat.le_refl _) (.mapIter none 0 #[] 0)
      exact ⟨rfl, hN.fr0 hF, hF.mono (Nat.le_refl _) (by simp)⟩
  · have c2 : w.cell? ⟨g, 2, none⟩ = some (.map (some b)) := h1.cell 2
    obtain ⟨w1, hrg, hR, f1⟩ := hm.range (P := Try.prog) (t := 44) Try.underlying44
    go_enter Try.func13, Try.ntmps13
    go_wp2
    go_loopw [5] (fun h wr => ∃ (j : Nat) (D1 Left : List (Pair × Unit)), h = .int .i64 (j : Int) ∧ RangeIs KP VT wr w.heap.size b D1 Left ∧ Fr w.heap.size [b] w wr ∧ j + D1.length = D.length ∧ healS D1 xs = healS D xs ∧ (∀ d ∈ D1, okP d.1) ∧ (∀ d ∈ Left, d ∈ D1) ∧ (∀ d ∈ D1, d ∈ Left ∨ healP xs d.1 = false)) (fun _ wr => leftN wr w.heap.size b)
    case atStart => exact ⟨0, D, D, rfl, hR, f1.mono (Nat.le_refl _) (by simp), by omega, rfl, hN.cuts, fun d hd => hd, fun d hd => .inl hd⟩
    case round =>
      obtain ⟨j, D1, Left, rfl, hR1, hF1, hjl, hhs, hok, hsub, hheal⟩ := hrel
      have hms := hR1.leftN
      rcases hR1.next pairEnc 0 with ⟨rfl, hnx⟩ | ⟨d, hd, w2, hnx, hR2, o2, hent⟩
      · have hD1 : D1 = healS D xs := by rw [← hhs]; exact (healS_all fun d hd => (hheal d hd).resolve_left (by simp)).symm
        have hj : (j : Int) = (D.length : Int) - (healS D xs).length := by rw [← hD1]; omega
        have hNe := hN.recut h1 h2 h3 hm hbF hF1 hR1.map hok
        have hFe := hF1.mono (S' := F) (Nat.le_refl _) (fun q hq _ => by simp at hq; exact hq ▸ hbF)
        have Hj := Lib.hid hj
        clear hj hheal hsub
        go_wp2
        go_ret
        rw [Hj.out, ← hD1]
        exact ⟨rfl, hNe, hFe⟩
      · have hpok := hok d (hsub d hd)
        have hNe := hN.recut h1 h2 h3 hm hbF hF1 hR1.map hok
        have hrl := hR2.lt
        have hsz := hF1.size
        obtain ⟨p, u⟩ := d
        have o2f : Fr w.heap.size [b] w w2 := hF1.one o2 (.inr (Nat.le_refl _))
        unfold KP at hnx hent
        have hleft : (Left.filter fun z => decide (z.1 ≠ p)).length < Left.length := by
          rw [List.length_filter_lt_length_iff_exists]
          exact ⟨_, hd, by simp⟩
        have hdl : (D1.filter fun z => decide (z.1 ≠ p)).length + 1 = D1.length := by
          obtain ⟨_, _, _, _, _, _, hn⟩ := hR1.map
          exact filter_key_len hn (hsub _ hd)
        by_cases hx0 : xs.length = 0
        · have hxi : (xs.length : Int) = 0 := by omega
          have hhp : healP xs p = true := by unfold healP; simp [hx0]
          have hR3 := hR2.block (Below.heap_alloc _ (.cells #[.int .i64 p.1, .int .i64 p.2] 51) _ hrl.1) (Below.heap_alloc _ (.cells #[.int .i64 p.1, .int .i64 p.2] 51) _ hrl.2.1)
          have o3f := o2f.alloc (by have := o2f.size; omega) (.cells #[.int .i64 p.1, .int .i64 p.2] 51)
          have HB := Has.new w2 51 [.int .i64 p.1, .int .i64 p.2]
          have e0 : _ = some (Value.int .i64 p.1) := HB.drew.cell 0
          have e1 : _ = some (Value.int .i64 p.2) := HB.drew.cell 1
          obtain ⟨W3, hW3⟩ : ∃ W3, W3 = w2.alloc (.cells #[.int .i64 p.1, .int .i64 p.2] 51) := ⟨_, rfl⟩
          have hR3d : RangeIs KP VT W3.drew w.heap.size b D1 (Left.filter fun z => decide (z.1 ≠ p)) := by rw [hW3]; exact hR3.block rfl rfl
          have g2 : W3.drew.cell? ⟨g, 2, none⟩ = some (.map (some b)) := by rw [hW3]; exact (h1.fr o3f hgl (by simpa using has_ne_map h1 hm)).drew.cell 2
          obtain ⟨w4, hdel, hR4, o4⟩ := hR3d.del pairEnc (t := 44) Try.underlying44 hok hpok 0
          unfold KP at hdel
          rw [hW3] at hdel g2 o4
          clear hW3 hR3d
          go_upto_region 8 with (fail)
          go_region
          all_goals
            go_wp2
            go_roundw
            case rel =>
              refine ⟨j + 1, D1.filter fun z => decide (z.1 ≠ p), (Left.filter fun z => decide (z.1 ≠ p)).filter fun z => decide (z.1 ≠ p), by go_num, hR4, o3f.drew.one o4 (.inl (by simp)), by omega, (healS_less hhp).trans hhs, fun d hd => hok d (List.mem_filter.1 hd).1, ?_, ?_⟩
              · intro d hd
                have h1 := (List.mem_filter.1 (List.mem_filter.1 hd).1).1
                exact List.mem_filter.2 ⟨hsub d h1, (List.mem_filter.1 hd).2⟩
              · intro d hd
                obtain ⟨h1, h2⟩ := List.mem_filter.1 hd
                exact (hheal d h1).imp (fun h => List.mem_filter.2 ⟨List.mem_filter.2 ⟨h, h2⟩, h2⟩) id
            case measure => rw [hms, hR4.leftN]; exact Nat.lt_of_le_of_lt (List.length_filter_le _ _) hleft
        · have hxi : ¬ (xs.length : Int) = 0 := by omega
          have hR3 := hR2.block (Below.heap_alloc _ (.cells #[.int .i64 p.1, .int .i64 p.2] 51) _ hrl.1) (Below.heap_alloc _ (.cells #[.int .i64 p.1, .int .i64 p.2] 51) _ hrl.2.1)
          have o3f := o2f.alloc (by have := o2f.size; omega) (.cells #[.int .i64 p.1, .int .i64 p.2] 51)
          have hAr := hA.fr1 o3f (Nat.le_refl _) (fun blk o hq => by simp; intro e; exact hAF blk o hq (e ▸ hbF))
          have HB := Has.new w2 51 [.int .i64 p.1, .int .i64 p.2]
          have e0 : _ = some (Value.int .i64 p.1) := HB.cell 0
          have e1 : _ = some (Value.int .i64 p.2) := HB.cell 1
          have hhas := has_any _ p A c xs (hAr.mono (by have := o3f.size; omega)) (by omega)
          have hhb : healP xs p = hasB p xs := by unfold healP; simp [hx0]
          rw [← hhb] at hhas
          unfold KP at hhas
          cases hhp : healP xs p
          · rw [hhp] at hhas
            go_wp2_with (go_at_call 22; (refine hhas.mono ?_); rintro e w3 ⟨rfl, f3⟩; have hs3 := o3f.size; have hR5 := hR3.block (f3.block _ (by simp; omega) (by simp)) (f3.block _ (by simp; omega) (by simp)))
            go_roundw
            case rel =>
              exact ⟨j, D1, _, rfl, hR5, o3f.trans (f3.mono hs3 (by simp)), hjl, hhs, hok, fun d hd => hsub d (List.mem_filter.1 hd).1, fun d hd => (by
                by_cases e : d.1 = p
                · exact .inr (e ▸ hhp)
                · exact (hheal d hd).imp (fun h => List.mem_filter.2 ⟨h, by simpa using e⟩) id)⟩
            case measure => rw [hms, hR5.leftN]; exact hleft
          · rw [hhp] at hhas
            go_upto_region 8 with (go_at_call 22; (refine hhas.mono ?_); rintro e w3 ⟨rfl, f3⟩; have hs3 := o3f.size; have hR5 : RangeIs KP VT w3.drew w.heap.size b D1 (Left.filter fun z => decide (z.1 ≠ p)) := (hR3.block (f3.block _ (by simp; omega) (by simp)) (f3.block _ (by simp; omega) (by simp))).block rfl rfl; have o5f := o3f.trans (f3.mono hs3 (by simp)); have HB5 := (HB.fr f3 (by simp) (by simp)).drew; clear e0 e1; have e0 : _ = some (Value.int .i64 p.1) := HB5.cell 0; have e1 : _ = some (Value.int .i64 p.2) := HB5.cell 1; have g2 : w3.drew.cell? ⟨g, 2, none⟩ = some (.map (some b)) := (h1.fr o5f hgl (by simpa using has_ne_map h1 hm)).drew.cell 2; obtain ⟨w4, hdel, hR4, o4⟩ := hR5.del pairEnc (t := 44) Try.underlying44 hok hpok 0; unfold KP at hdel)
            go_region
            all_goals
              go_wp2
              go_roundw
              case rel =>
                refine ⟨j + 1, D1.filter fun z => decide (z.1 ≠ p), (Left.filter fun z => decide (z.1 ≠ p)).filter fun z => decide (z.1 ≠ p), by go_num, hR4, o5f.drew.one o4 (.inl (by simp)), by omega, (healS_less hhp).trans hhs, fun d hd => hok d (List.mem_filter.1 hd).1, ?_, ?_⟩
                · intro d hd
                  have h1 := (List.mem_filter.1 (List.mem_filter.1 hd).1).1
                  exact List.mem_filter.2 ⟨hsub d h1, (List.mem_filter.1 hd).2⟩
                · intro d hd
                  obtain ⟨h1, h2⟩ := List.mem_filter.1 hd
                  exact (hheal d h1).imp (fun h => List.mem_filter.2 ⟨List.mem_filter.2 ⟨h, h2⟩, h2⟩) id
              case measure => rw [hms, hR4.leftN]; exact Nat.lt_of_le_of_lt (List.length_filter_le _ _) hleft
end Go.Proofs.Ytjlpbhmhnniodaa
