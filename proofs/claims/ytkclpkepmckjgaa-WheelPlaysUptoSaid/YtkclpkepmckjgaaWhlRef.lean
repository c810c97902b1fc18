/- The reference: its list in memory; Cancel, Set. -/
import Derived.Test.YtkclpkepmckjgaaWhlOnceP
import Derived.Test.YtkclpkepmckjgaaWhlOpens
import Derived.Test.YtkclpkepmckjgaaOwnRow
namespace Go.Proofs.Ytkclpkepmckjgaa
open Go.RowKit Go.Maps Go.Sort Go.Shelf
open Wh
namespace Wh
def rc (d : Key × Int) : List Value := [.int .i64 d.2, KV d.1]
/-- The reference in block r; its blocks are G. -/
structure RIs (W : World) (r : Nat) (G : List Nat) (R : List (Key × Int)) : Prop where
  ex : ∃ v, Has W r 29 [v] ∧ W.ownsRow 0 52 2 v R.length (R.flatMap rc) ∧ ∀ k, v.ownBlock = some k → k ∈ G
  self : r ∈ G
  lt : ∀ k ∈ G, k < W.heap.size
theorem RIs.fr {W W' : World} {r : Nat} {G : List Nat} {R : List (Key × Int)} {B : Nat} {S : List Nat} (h : RIs W r G R) (hF : ∀ k ∈ G, k < B) (hS : ∀ k ∈ G, k ∉ S) (hf : Fr B S W W') : RIs W' r G R := by
  obtain ⟨v, h1, h2, h3⟩ := h.ex
  exact ⟨⟨v, h1.fr hf (hF r h.self) (hS r h.self), own_fr h2 (fun k hk => ⟨hF k (h3 k hk), hS k (h3 k hk)⟩) hf, h3⟩, h.self, fun k hk => Nat.lt_of_lt_of_le (h.lt k hk) hf.size⟩
theorem RIs.fr0 {W W' : World} {r : Nat} {G : List Nat} {R : List (Key × Int)} (h : RIs W r G R) (hf : Fr W.heap.size [] W W') : RIs W' r G R := h.fr h.lt (by simp) hf
/-- What a walk reads of it. -/
theorem RIs.read {W : World} {r : Nat} {G : List Nat} {R : List (Key × Int)} (h : RIs W r G R) : ∃ A c, W.cell? ⟨r, 0, none⟩ = some (.slice A R.length c) ∧ ARow W W.heap.size A (R.flatMap rc) := by
  obtain ⟨v, h1, h2, h3⟩ := h.ex
  obtain ⟨A, c, rfl, hr⟩ := own_arow h2
  exact ⟨A, c, h1.cell 0, hr⟩
theorem rc_at {w W : World} {N : Nat} {A : Option Addr} {R : List (Key × Int)} (hA : ARow w N A (R.flatMap rc)) {S : List Nat} (hf : Fr N S w W) (hS : ∀ blk o, A = some ⟨blk, o, none⟩ → blk ∉ S) (k : Nat) (hk : k < R.length) :
    ∃ blk o, A = some ⟨blk, o, none⟩ ∧ W.cell? ⟨blk, o + k * 2, none⟩ = some (.int .i64 R[k].2) ∧ W.cell? ⟨blk, o + k * 2 + 1, none⟩ = some (KV R[k].1) := by
  obtain ⟨blk, o, h1, h2, h3⟩ := hA.at (cells := rc) (c := 2) (fun _ => rfl) (by decide) k hk
  refine ⟨blk, o, h1, ?_, ?_⟩
  · exact (hf.cell (p := ⟨blk, o + k * 2, none⟩) h2 (hS blk o h1)).trans (h3 0 _ rfl)
  · exact (hf.cell (p := ⟨blk, o + k * 2 + 1, none⟩) h2 (hS blk o h1)).trans (h3 1 _ rfl)
theorem cut1_snoc (L : List (Key × Int)) (d : Key × Int) (x : Key) : cut1 (L ++ [d]) x = if d.1 = x then cut1 L x else cut1 L x ++ [d] := by
  unfold cut1
  rw [List.filter_append]
  by_cases h : d.1 = x <;> simp [h]
theorem cut1_le (L : List (Key × Int)) (x : Key) : (cut1 L x).length ≤ L.length := List.length_filter_le _ _
/-- The reference, its row made from block base on. -/
def RNew (base : Nat) (W : World) (r : Nat) (R : List (Key × Int)) : Prop := ∃ v, Has W r 29 [v] ∧ W.ownsRow base 52 2 v R.length (R.flatMap rc)
theorem RNew.is {base : Nat} {W : World} {r : Nat} {R : List (Key × Int)} (h : RNew base W r R) : ∃ G, RIs W r G R ∧ ∀ q ∈ G, q = r ∨ base ≤ q := by
  obtain ⟨v, h1, h2⟩ := h
  refine ⟨r :: v.ownBlock.toList, ⟨⟨v, h1, ownsRow_base_a h2 (Nat.zero_le _), fun k hk => by simp [hk]⟩, by simp, fun k hk => ?_⟩, fun q hq => ?_⟩
  · rcases List.mem_cons.1 hk with rfl | hk
    · exact h1.lt
    · exact (h2.lt k (by simpa using hk)).2
  · rcases List.mem_cons.1 hq with rfl | hq
    · exact .inl rfl
    · exact .inr (h2.lt q (by simpa using hq)).1
end Wh
theorem infoTimer : (Try.prog.info? 52).map (fun i => (i.zero, i.size, i.bytes)) = some (some (.agg #[.int .i64 0, .string ⟨#[]⟩]), 2, 24) := by kernel_rfl
set_option maxRecDepth 100000 in
set_option maxHeartbeats 4000000 in
theorem rcancel_any (w : World) (r : Nat) (G : List Nat) (R : List (Key × Int)) (h : RIs w r G R) (hl : R.length ≤ 1000000000) (x : Key) :
    Calls Try.prog 8 #[.pointer (some ⟨r, 0, none⟩), KV x] w fun e w' => e = .returned (.int .i64 ((R.length : Int) - (cut1 R x).length)) ∧ RNew w.heap.size w' r (cut1 R x) ∧ Fr w.heap.size [r] w w' := by
  obtain ⟨i0, hi, hz0, hz1, hz2⟩ := info_parts infoTimer
  obtain ⟨v0, h1, h2, h3⟩ := h.ex
  obtain ⟨A, c, c0, hr⟩ := h.read
  have hrl := h.lt r h.self
  have z0 := h1.frozen 0
  obtain ⟨sx, hsx⟩ : ∃ sx : ByteArray, KV x = .string sx := ⟨_, rfl⟩
  rw [hsx]
  go_enter Try.func8, Try.ntmps8
  go_wp2
  go_loopw [5, 6] (fun v i wr => ∃ k : Nat, k ≤ R.length ∧ i = .int .i64 (k : Int) ∧ wr.ownsRow w.heap.size 52 2 v (cut1 (R.take k) x).length ((cut1 (R.take k) x).flatMap rc) ∧ Fr w.heap.size [] w wr) (fun _ i _ => R.length - (intOf i).toNat)
  case atStart => exact ⟨0, by omega, rfl, World.ownsRow_nil _ _ _ _, Fr.refl _ _ _⟩
  case round =>
    obtain ⟨k, hk, rfl, hown, hF⟩ := hrel
    have d0 : wr.cell? ⟨r, 0, none⟩ = some (.slice A R.length c) := (hF.cell (p := ⟨r, 0, none⟩) hrl (by simp)).trans c0
    have hc1 := cut1_le (R.take k) x
    have htl : (R.take k).length = k := by rw [List.length_take]; omega
    by_cases hlt : k < R.length
    · have hki : (k : Int) < R.length := by omega
      obtain ⟨blk, o, rfl, y0, y1⟩ := rc_at hr hF (by simp) k hlt
      obtain ⟨d, hd⟩ : ∃ d, R[k] = d := ⟨_, rfl⟩
      have htk : R.take (k + 1) = R.take k ++ [d] := by rw [List.take_succ_eq_append_getElem hlt, hd]
      rw [hd] at y0 y1
      obtain ⟨sd, hsd⟩ : ∃ sd : ByteArray, KV d.1 = .string sd := ⟨_, rfl⟩
      have hbq := str_beq hsd hsx
      have hsn := cut1_snoc (R.take k) d x
      rw [← htk] at hsn
      rw [hsd] at y1
      by_cases he : d.1 = x
      · rw [decide_eq_true he] at hbq
        rw [if_pos he] at hsn
        go_wp2
        exact ⟨⟨k + 1, by omega, by go_num, by rw [hsn]; exact hown, hF⟩, by simp [intOf]; omega⟩
      · rw [decide_eq_false he] at hbq
        rw [if_neg he] at hsn
        obtain ⟨O, hO⟩ : ∃ O, cut1 (R.take k) x = O := ⟨_, rfl⟩
        rw [hO] at hown hsn hc1
        have hsz := hF.size
        go_wp2_with (at_builtin; refine wpList_append_has (by rfl) (.tmp 27) (.tmp 35) 27 (by rfl) w.heap.size 52 i0 (.agg #[.int .i64 0, .string ⟨#[]⟩]) 2 24 Try.underlying27 hi hz0 hz1 hz2 rfl (by decide) _ O.length _ (by rfl) (hown.alloc _) wr.heap.size 1 [.int .i64 d.2, .string sd] (by rfl) (Has.new wr 52 _) rfl (ones_dot rfl rfl) (by unfold maxLen; omega) (by omega) (by simp; omega) ?_; intro v' w6 hB6 hg6 hv6)
        have hf6 : Fr w.heap.size [] wr w6 := ((Fr.refl w.heap.size [] wr).alloc (by omega) _).grown hg6 (by simp; omega) (fun q hq => .inr (by have := (hown.lt q hq).1; omega))
        refine ⟨⟨k + 1, by omega, by go_num, ?_, hF.trans hf6⟩, by simp [intOf]; omega⟩
        rw [hsn, List.length_append, List.flatMap_append]
        have e1 : [d].flatMap rc = [.int .i64 d.2, .string sd] := by simp [rc, hsd]
        rw [e1]
        exact hB6
    · obtain rfl : k = R.length := by omega
      rw [List.take_length] at hown hc1
      obtain ⟨A5, c5, rfl⟩ := own_slice hown
      have hne : r ≠ w.heap.size := by omega
      have zr : wr.frozen? ⟨r, 0, none⟩ = false := (hF.frozen (p := ⟨r, 0, none⟩) hrl (by simp)).trans z0
      go_wp2
      go_ret
      refine ⟨by go_num, ⟨.slice A5 (cut1 R x).length c5, (h1.fr hF hrl (by simp)).set 0 _, ?_⟩, ?_⟩
      · exact own_one hown ((One.refl r wr).setCell 0 _) (fun e => by have := (hown.lt _ e.symm).1; omega)
      · exact (hF.mono (Nat.le_refl _) (by simp)).setCell (p := ⟨r, 0, none⟩) (.inl (by simp)) _
set_option maxRecDepth 100000 in
set_option maxHeartbeats 4000000 in
theorem rset_any (w : World) (r : Nat) (G : List Nat) (R : List (Key × Int)) (h : RIs w r G R) (hl : R.length ≤ 1000000000) (a : Int) (x : Key) :
    Calls Try.prog 14 #[.pointer (some ⟨r, 0, none⟩), .int .i64 a, KV x] w fun e w' => e = .returned (.tuple #[]) ∧ RNew w.heap.size w' r (set1 a R x) ∧ Fr w.heap.size [r] w w' := by
  obtain ⟨i0, hi, hz0, hz1, hz2⟩ := info_parts infoTimer
  have hrl := h.lt r h.self
  have hc := rcancel_any w r G R h hl x
  have hcl := cut1_le R x
  unfold set1
  obtain ⟨O, hO⟩ : ∃ O, cut1 R x = O := ⟨_, rfl⟩
  rw [hO] at hc hcl ⊢
  obtain ⟨sx, hsx⟩ : ∃ sx : ByteArray, KV x = .string sx := ⟨_, rfl⟩
  rw [hsx] at hc ⊢
  have hfin : (O ++ [(x, a)]).flatMap rc = O.flatMap rc ++ [.int .i64 a, .string sx] := by rw [List.flatMap_append]; simp [rc, hsx]
  simp only [RNew, List.length_append, hfin]
  go_enter Try.func14, Try.ntmps14
  go_upto_region 1 with (go_at_call 8; (refine hc.mono ?_); rintro e w1 ⟨rfl, ⟨v1, g1, g2⟩, f1⟩)
  obtain ⟨A5, c5, rfl⟩ := own_slice g2
  have c0 : w1.cell? ⟨r, 0, none⟩ = some (.slice A5 O.length c5) := g1.cell 0
  have hsz := f1.size
  go_wp2_with (at_builtin; refine wpList_append_has (by rfl) (.tmp 13) (.tmp 17) 27 (by rfl) w.heap.size 52 i0 (.agg #[.int .i64 0, .string ⟨#[]⟩]) 2 24 Try.underlying27 hi hz0 hz1 hz2 rfl (by decide) _ O.length _ (by rfl) (g2.alloc _) w1.heap.size 1 [.int .i64 a, .string sx] (by rfl) (Has.new w1 52 _) rfl (ones_dot rfl rfl) (by unfold maxLen; omega) (by omega) (by simp; omega) ?_; intro v' w6 hB6 hg6 hv6; have hf6 : Fr w1.heap.size (A5.toList.map (·.block)) w1 w6 := ((Fr.refl w1.heap.size _ w1).alloc (by omega) _).grown hg6 (by simp) (fun q hq => .inl (by cases A5 <;> simp [Value.ownBlock] at hq ⊢; exact hq.symm)); have hra : r ∉ A5.toList.map (·.block) := (fun hm => by cases A5 with | none => simp at hm | some p => have := (g2.lt p.block rfl).1; simp at hm; omega); have q1 := g1.fr hf6 g1.lt hra; have z6 := q1.frozen 0; have q0 := q1.cell 0; obtain ⟨A9, c9, rfl⟩ := own_slice hB6)
  refine bodyPost_end (v := .tuple #[]) (by simp [results, Try.results14, go_sem]) rfl ⟨rfl, ⟨_, q1.set 0 _, own_one hB6 ((One.refl r w6).setCell 0 _) (fun e => by have := (hB6.lt _ e.symm).1; omega)⟩, ?_⟩
  have h7 : Fr w.heap.size [r] w1 w6 := ((Fr.refl w.heap.size [r] w1).alloc hsz _).grown hg6 (by simp; omega) (fun q hq => .inr (g2.lt q hq).1)
  exact (f1.trans h7).setCell (p := ⟨r, 0, none⟩) (.inl (by simp)) _
end Go.Proofs.Ytkclpkepmckjgaa
