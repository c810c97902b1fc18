/- same; the wheel and its reference side by side. -/
import Derived.Test.YtkclpkepmckjgaaWhlRef3
namespace Go.Proofs.Ytkclpkepmckjgaa
open Go.RowKit Go.Maps Go.Sort Go.Shelf
open Wh
set_option maxRecDepth 100000 in
set_option maxHeartbeats 4000000 in
theorem same_any (w : World) (A A2 : Option Addr) (c c2 : Nat) (xs : List Key) (hl : xs.length ≤ 4611686018427387904) (h1 : ARow w w.heap.size A (xs.map KV)) (h2 : ARow w w.heap.size A2 (xs.map KV)) :
    Calls Try.prog 11 #[.slice A xs.length c, .slice A2 xs.length c2] w fun e w' => e = .returned (.bool true) ∧ ∃ q, w' = w.drewN q := by
  go_enter Try.func11, Try.ntmps11
  go_wp2
  go_loopw [5] (fun i wr => ∃ k : Nat, k ≤ xs.length ∧ i = .int .i64 (k : Int) ∧ Hid (∃ q, wr = w.drewN q)) (fun i _ => xs.length - (intOf i).toNat)
  case atStart => exact ⟨0, by omega, rfl, 0, rfl⟩
  case round =>
    obtain ⟨k, hk, rfl, q, hq⟩ := hrel
    replace hq : Hid (wr = w.drewN q) := hq
    by_cases hlt : k < xs.length
    · have hki : (k : Int) < xs.length := by omega
      have hk0 : (0 : Int) ≤ k := by omega
      obtain ⟨blk, o, rfl, hb, e0⟩ := name_of h1 k hlt
      obtain ⟨blk2, o2, rfl, hb2, e2⟩ := name_of h2 k hlt
      obtain ⟨s, hs⟩ : ∃ s : ByteArray, KV xs[k] = .string s := ⟨_, rfl⟩
      rw [hs] at e0 e2
      have hss : (s.toList == s.toList) = true := by simp
      have y0 : wr.cell? ⟨blk, o + k, none⟩ = some (.string s) := by rw [hq.out]; exact e0
      have y2 : wr.cell? ⟨blk2, o2 + k, none⟩ = some (.string s) := by rw [hq.out]; exact e2
      clear e0 e2 hs
      go_upto_region 6 with fail
      go_quiet (fail)
      go_wp2
      exact ⟨⟨k + 1, by omega, by go_num, q + nq, by rw [hq.out]; simp [World.drewN, Nat.add_assoc]⟩, by simp [intOf]; omega⟩
    · obtain rfl : k = xs.length := by omega
      go_wp2
      go_ret
      exact ⟨rfl, q, hq.out⟩
namespace Wh
structure PlSt (w W : World) (g r : Nat) (G K : List Nat) (n : Int) (L R : List (Key × Int)) : Prop where
  wh : WAt w.heap.size (G ++ K) w W g n L
  rf : RIs W r G R
  lo : ∀ q ∈ G, w.heap.size ≤ q
  dis : ∀ k ∈ K, k ∉ G
section
variable {w W W' : World} {g r : Nat} {G K : List Nat} {n n' : Int} {L R L' R' : List (Key × Int)}
theorem RIs.kp {K' : List Nat} (h : RIs W r G R) (hk : Kp K' W W') (hG : ∀ q ∈ G, q ∈ K') (hs : ∀ q ∈ G, q < W'.heap.size) : RIs W' r G R := by
  obtain ⟨v, h1, h2, h3⟩ := h.ex
  exact ⟨⟨v, hk.has (hG r h.self) h1, hk.own h2 (fun k hkk => hG k (h3 k hkk)), h3⟩, h.self, hs⟩
/-- The wheel's step. -/
theorem PlSt.wheel (h : PlSt w W g r G K n L R) (h2 : WAt w.heap.size (G ++ K) w W' g n' L') (hk : Kp (G ++ K) W W') : PlSt w W' g r G K n' L' R ∧ Kp K W W' :=
  ⟨⟨h2, h.rf.kp hk (fun _ hq => List.mem_append_left _ hq) (fun q hq => h2.klt q (List.mem_append_left _ hq)), h.lo, h.dis⟩, hk.sub fun _ hk => List.mem_append_right _ hk⟩
/-- The reference's step. -/
theorem PlSt.ref (h : PlSt w W g r G K n L R) {G' : List Nat} (h2 : RIs W' r G' R') (hf : Fr W.heap.size G W W') (hG : ∀ q ∈ G', q ∈ G ∨ W.heap.size ≤ q) : PlSt w W' g r G' K n L R' ∧ Kp K W W' := by
  have hlo := h.wh.lo
  have hkl := h.wh.klt
  refine ⟨⟨h.wh.other hf (fun k hk => ⟨List.mem_append_left _ hk, h.lo k hk⟩) fun k hk => ?_, h2, fun q hq => ?_, fun k hk hkG => ?_⟩, fun k hk => hf.block k (hkl k (List.mem_append_right _ hk)) (h.dis k hk)⟩
  · rcases List.mem_append.1 hk with hk | hk
    · refine ⟨?_, h2.lt k hk⟩
      rcases hG k hk with h3 | h3
      · exact .inl (List.mem_append_left _ h3)
      · exact .inr h3
    · exact ⟨.inl (List.mem_append_right _ hk), Nat.lt_of_lt_of_le (hkl k (List.mem_append_right _ hk)) hf.size⟩
  · rcases hG q hq with h3 | h3
    · exact h.lo q h3
    · omega
  · rcases hG k hkG with h3 | h3
    · exact h.dis k hk h3
    · have := hkl k (List.mem_append_right _ hk); omega
theorem PlSt.fr (h : PlSt w W g r G K n L R) (hf : Fr W.heap.size [] W W') : PlSt w W' g r G K n L R ∧ Kp K W W' := by
  obtain ⟨h1, h2⟩ := h.wh.fr hf
  exact h.wheel h1 h2
theorem PlSt.keep (h : PlSt w W g r G K n L R) (o : Obj) : PlSt w (W.alloc o) g r G (W.heap.size :: K) n L R := by
  have hf := (Fr.refl W.heap.size [] W).alloc (Nat.le_refl _) o
  have hkl := h.wh.klt
  refine ⟨h.wh.other hf (by simp) fun k hk => ?_, h.rf.fr0 hf, h.lo, fun k hk hkG => ?_⟩
  · rcases List.mem_append.1 hk with hk | hk
    · exact ⟨.inl (List.mem_append_left _ hk), Nat.lt_of_lt_of_le (hkl k (List.mem_append_left _ hk)) hf.size⟩
    · rcases List.mem_cons.1 hk with rfl | hk
      · exact ⟨.inr (Nat.le_refl _), by simp⟩
      · exact ⟨.inl (List.mem_append_right _ hk), Nat.lt_of_lt_of_le (hkl k (List.mem_append_right _ hk)) hf.size⟩
  · rcases List.mem_cons.1 hk with rfl | hk
    · have := h.rf.lt _ hkG; omega
    · exact h.dis k hk hkG
theorem PlSt.drop (h : PlSt w W g r G K n L R) {K' : List Nat} (hK : ∀ k ∈ K', k ∈ K) : PlSt w W g r G K' n L R :=
  ⟨h.wh.drop fun k hk => by
    rcases List.mem_append.1 hk with hk | hk
    · exact List.mem_append_left _ hk
    · exact List.mem_append_right _ (hK k hk), h.rf, h.lo, fun k hk => h.dis k (hK k hk)⟩
/-- A block of K is written. -/
theorem PlSt.write (h : PlSt w W g r G K n L R) {b : Nat} (hb : b ∈ K) (hB : w.heap.size ≤ b) (ho : One b W W') : PlSt w W' g r G K n L R :=
  ⟨h.wh.write (List.mem_append_right _ hb) hB ho, h.rf.fr (B := W.heap.size) (S := [b]) h.rf.lt (fun k hk hkb => by simp at hkb; subst hkb; exact h.dis k hb hk) ((Fr.refl _ _ _).one ho (.inl (by simp))), h.lo, h.dis⟩
theorem setV_snoc (a : Int) (L : List (Key × Int)) (xs : List Key) (x : Key) : set1 a (setV a L xs) x = setV a L (xs ++ [x]) := by
  unfold setV
  rw [List.foldl_append]
  rfl
end
end Wh
end Go.Proofs.Ytkclpkepmckjgaa
