/- Set. -/
import Derived.Test.YtkclpkepmckjgaaWhlCancel
import Derived.Deep.CutRange
namespace Go.Proofs.Ytkclpkepmckjgaa
open Go.RowKit Go.Maps
open Wh
def Wh.setS (at_ : Int) (s : List (Key × Tm) × Int) (xs : List Key) : List (Key × Tm) × Int := xs.foldl (fun s x => (putL s.1 x ⟨at_, s.2 + 1⟩, s.2 + 1)) s
theorem Wh.setS_snoc (at_ : Int) (s : List (Key × Tm) × Int) (xs : List Key) (x : Key) : setS at_ s (xs ++ [x]) = (putL (setS at_ s xs).1 x ⟨at_, (setS at_ s xs).2 + 1⟩, (setS at_ s xs).2 + 1) := by
  unfold setS
  rw [List.foldl_append]
  rfl
theorem Wh.setS_ord (at_ : Int) (s : List (Key × Tm) × Int) (xs : List Key) : (setS at_ s xs).2 = s.2 + xs.length := by
  unfold setS
  induction xs generalizing s with
  | nil => simp
  | cons x xs ih => rw [List.foldl_cons, ih]; simp; omega
set_option maxHeartbeats 1000000 in
theorem wset_nil (w : World) (at_ : Int) (A : Option Addr) (n c : Nat) : Calls Try.prog 13 #[.pointer none, .int .i64 at_, .slice A n c] w fun e w' => e = .returned (.tuple #[]) ∧ w = w' := by
  go_enter Try.func13, Try.ntmps13
  go_wp2
  refine bodyPost_ret (v := .tuple #[]) (by simp [results, Try.results13, go_sem]) rfl ⟨rfl, rfl⟩
set_option maxHeartbeats 4000000 in
theorem wset_any (w : World) (g : Nat) (F : List Nat) (n : Int) (D : List (Key × Tm)) (h : WhIs w g F n D) (at_ : Int) (A : Option Addr) (c : Nat) (xs : List Key) (hA : ARow w w.heap.size A (xs.map KV)) (hAF : xs ≠ [] → ∀ blk o, A = some ⟨blk, o, none⟩ → blk ∉ F) (hn0 : 0 ≤ n) (hn : n + xs.length ≤ 4611686018427387904) :
    Calls Try.prog 13 #[.pointer (some ⟨g, 0, none⟩), .int .i64 at_, .slice A xs.length c] w fun e w' => e = .returned (.tuple #[]) ∧ ∃ F', WhIs w' g F' (n + xs.length) (setS at_ (D, n) xs).1 ∧ Fr w.heap.size F w w' ∧ ∀ q ∈ F', q ∈ F ∨ w.heap.size ≤ q := by
  obtain ⟨mp, h1, h2⟩ := h.ex
  obtain ⟨mb, rfl⟩ : ∃ mb, mp = .map mb := by
    rcases h2 with ⟨rfl, _⟩ | ⟨b, rfl, _⟩
    · exact ⟨none, rfl⟩
    · exact ⟨some b, rfl⟩
  have c0 : w.cell? ⟨g, 0, none⟩ = some (.map mb) := h1.cell 0
  have z0 := h1.frozen 0
  have hgl := h1.lt
  have q44 : ∀ (W : World) (r : Option Nat), (binOp .eql 47 (.map r) (.map none)).run Try.prog W = .ok (.bool r.isNone) W := fun W r => run_eql_map_nil W _ _ _ r Try.underlying47
  have hmk : ∀ W : World, (Instr.makeMap 47 none).run Try.prog W = .ok (.map (some W.heap.size)) (W.alloc (.map #[] 0)) := fun _ => rfl
  go_enter Try.func13, Try.ntmps13
  go_upto_if 14 with fail
  go_cut [] from 15 to 18 (fun wc => ∃ b, Has wc g 49 [.map (some b), .int .i64 n] ∧ MapIs KV TV wc b D ∧ Fr w.heap.size F w wc ∧ (b ∈ F ∨ w.heap.size ≤ b) ∧ b ≠ g)
  case first =>
    rcases h2 with ⟨he, rfl⟩ | ⟨b, he, h2, hbF⟩
    all_goals injection he with he; subst he
    · go_wp2
      go_meet
      case rel =>
        have hf := ((Fr.refl w.heap.size F w).setCell (p := ⟨g, 0, none⟩) (.inl h.self) (.map (some w.heap.size)))
        have hM := MapIs.new (encK := KV) (encV := TV) (w.setCell ⟨g, 0, none⟩ (.map (some w.heap.size)))
        have hz : (w.setCell ⟨g, 0, none⟩ (.map (some w.heap.size))).heap.size = w.heap.size := by simp
        rw [hz] at hM
        exact ⟨w.heap.size, (h1.set 0 (.map (some w.heap.size))).alloc _, hM, hf.alloc hf.size _, .inr (Nat.le_refl _), by omega⟩
    · go_wp2
      go_meet
      case rel =>
        refine ⟨b, h1, h2, Fr.refl _ _ _, .inl hbF, ?_⟩
        rintro rfl
        obtain ⟨es, clock, hb, _⟩ := h2
        unfold Has at h1
        rw [hb] at h1
        cases h1
  case rest =>
    obtain ⟨b, m1, m2, m3, m4, m5⟩ := hcut
    have hb2 := m2.lt
    have hs3 := m3.size
    go_wp2
    go_loopw [21] (fun i wr => ∃ k : Nat, k ≤ xs.length ∧ i = .int .i64 (k : Int) ∧ Has wr g 49 [.map (some b), .int .i64 (n + k)] ∧ MapIs KV TV wr b (setS at_ (D, n) (xs.take k)).1 ∧ Fr w.heap.size F w wr ∧ wc.heap.size = wr.heap.size) (fun i _ => xs.length - (intOf i).toNat)
    case atStart => exact ⟨0, by omega, rfl, by simpa using m1, by simpa [setS] using m2, m3, rfl⟩
    case round =>
      obtain ⟨k, hk, rfl, g1, g2, g3, g4⟩ := hrel
      have d0 : wr.cell? ⟨g, 0, none⟩ = some (.map (some b)) := g1.cell 0
      have d1 : wr.cell? ⟨g, 1, none⟩ = some (.int .i64 (n + k)) := g1.cell 1
      have z1 := g1.frozen 1
      by_cases hlt : k < xs.length
      · obtain ⟨blk, o, rfl, hb, e0⟩ := name_of hA k hlt
        have e1 : wr.cell? ⟨blk, o + k, none⟩ = some (KV xs[k]) := (g3.cell (p := ⟨blk, o + k, none⟩) hb (hAF (fun h0 => by rw [h0] at hlt; simp at hlt) blk o rfl)).trans e0
        have hki : (k : Int) < xs.length := by omega
        have hw1 : IntKind.i64.wrap (n + (k : Int) + 1) = n + k + 1 := IntWalk.i64_in _ (by omega)
        have hbr : b < wr.heap.size := by omega
        go_upto_region 7 with fail
        refine region_still_tail 11 (by kernel_rfl) (by kernel_rfl) ?_
        intro W hW
        have H : Has W g 49 [.map (some b), .int .i64 (n + k + 1)] := by rw [hW]; exact (g1.set 1 (.int .i64 (n + k + 1))).drew
        have M : MapIs KV TV W b (setS at_ (D, n) (xs.take k)).1 := by rw [hW]; exact g2.block (Below.heap_setCell _ _ _ _ (by simpa using m5))
        have FF : Fr w.heap.size F w W := by rw [hW]; exact (g3.setCell (p := ⟨g, 1, none⟩) (.inl h.self) _).drew
        have SS : wc.heap.size = W.heap.size := by rw [hW, g4]; show _ = (wr.setCell _ _).heap.size; simp
        have k0 : W.cell? ⟨g, 0, none⟩ = some (.map (some b)) := H.cell 0
        have k1 : W.cell? ⟨g, 1, none⟩ = some (.int .i64 (n + k + 1)) := H.cell 1
        obtain ⟨W', r1, r2, r3⟩ := M.put strEnc Try.underlying47 (fun _ _ => trivial) (a := xs[k]) trivial ⟨at_, n + k + 1⟩
        unfold TV at r1
        simp only [] at r1
        clear hW
        simp only [List.take_succ_cons, List.take_zero, List.drop_succ_cons, List.drop_zero]
        iterate 11 (refine wpStill_step (fun K hK => ?_); go_simp; refine hK _ ?_; clear hK K)
        refine wpStill_nil ?_
        go_wp2
        refine ⟨⟨k + 1, by omega, by go_num, ?_, ?_, FF.one r3 m4, by rw [SS, r3.size]⟩, by simp [intOf]; omega⟩
        · rw [show n + ((k + 1 : Nat) : Int) = n + k + 1 by omega]
          exact H.one r3 (Ne.symm m5)
        · rw [List.take_add_one, List.getElem?_eq_getElem hlt, Option.toList_some, setS_snoc, setS_ord, List.length_take, Nat.min_eq_left hk]
          exact r2
      · obtain rfl : k = xs.length := by omega
        rw [List.take_length] at g2
        go_wp2
        refine bodyPost_end (v := .tuple #[]) (by simp [results, Try.results13, go_sem]) rfl ⟨rfl, b :: F, ⟨⟨.map (some b), g1, .inr ⟨b, rfl, g2, by simp⟩⟩, by simp [h.self], fun q hq => ?_⟩, g3, fun q hq => ?_⟩
        · have := g3.size
          rcases List.mem_cons.1 hq with rfl | hq
          · omega
          · have := h.lt q hq; omega
        · rcases List.mem_cons.1 hq with rfl | hq
          · exact m4
          · exact .inl hq
end Go.Proofs.Ytkclpkepmckjgaa
