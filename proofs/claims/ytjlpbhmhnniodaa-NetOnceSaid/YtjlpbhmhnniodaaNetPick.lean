/- Clone, the closures, picked, gone. -/
import Derived.Test.YtjlpbhmhnniodaaNetDel
import Derived.WalkKit
import Derived.Lib.SliceRun
namespace Go.Proofs.Ytjlpbhmhnniodaa
open Go.RowKit Go.Maps
open Nt
theorem infoMsg : (Try.prog.info? 34).map (fun i => (i.zero, i.size, i.bytes)) = some (some (.agg #[.int .i64 0, .int .i64 0, .int .i64 0, .string ⟨#[]⟩]), 4, 40) := by kernel_rfl
theorem cells_one (ms : List Msg) : ∀ u ∈ ms.flatMap Msg.cells, u.oneCell' = true := by
  intro u hu
  obtain ⟨m, _, hm⟩ := List.mem_flatMap.1 hu
  exact ones_msg rfl rfl rfl rfl u hm
set_option maxHeartbeats 1000000 in
theorem clone_any (w : World) (base : Nat) (v : Value) (ms : List Msg) (h : w.ownsRow base 34 4 v ms.length (ms.flatMap Msg.cells)) (hl : ms.length ≤ 1000000) :
    Calls Try.prog 24 #[v] w fun e w' => ∃ v', e = .returned v' ∧ w'.ownsRow w.heap.size 34 4 v' ms.length (ms.flatMap Msg.cells) ∧ Fr w.heap.size [] w w' := by
  have q26 : ∀ (w : World) (a : Option Addr) (n c n' c' : Nat), (binOp .eql 26 (.slice a n c) (.slice none n' c')).run Try.prog w = .ok (.bool a.isNone) w := fun w a n c n' c' => Lib.run_eql_slice_nil w _ _ a n c n' c' Try.underlying26
  rcases h.2 with ⟨rfl, h0⟩ | ⟨gb, cap, cur, rfl, hb, hg, hn, hcm, hcs, htk⟩
  · obtain rfl : ms = [] := List.eq_nil_of_length_eq_zero h0
    go_enter Try.func24, Try.ntmps24
    go_wp2
    go_ret
    exact ⟨_, rfl, ⟨rfl, .inl ⟨rfl, rfl⟩⟩, Fr.refl _ _ _⟩
  · obtain ⟨i0, hi, hz0, hz1, hz2⟩ := info_parts infoMsg
    have A : Aside (∀ j u, (ms.flatMap Msg.cells)[j]? = some u → w.cell? ⟨gb, 0 + j, none⟩ = some u) := fun j u hu => by
      have hj := (List.getElem?_eq_some_iff.1 hu).1
      rw [flatMap_len Msg.cells 4 (fun _ => rfl)] at hj
      have := h.cellAt j hj
      rw [Nat.zero_add, this]
      exact hu
    have hlen := flatMap_len Msg.cells 4 (fun _ => rfl) ms
    have hc := cells_one ms
    obtain ⟨xs, hxs⟩ : ∃ xs, Hid (xs = ms.flatMap Msg.cells) := ⟨_, rfl⟩
    rw [← hxs.out] at hlen A hc ⊢
    go_enter Try.func24, Try.ntmps24
    go_wp2_with (at_builtin; refine wpList_append_own _ rfl _ _ 26 rfl w.heap.size 34 i0 _ 4 40 Try.underlying26 hi hz0 hz1 hz2 rfl (by decide) _ _ _ rfl (World.ownsRow_made w #[] 0 (Nat.le_refl _) (Nat.zero_le _) (by simp)) ⟨gb, 0, none⟩ ms.length cap xs rfl ?qc1 ?qc2 ?qc3 ?qc4 ?qc5 ?qc6 ?_)
    case qc1 => exact hlen
    case qc2 =>
      intro j u hj
      rw [Addr.add_lit]
      exact Lib.cell?_alloc_some _ (A.out j u hj)
    case qc3 => exact hc
    case qc4 => rw [Nat.zero_add]; exact Nat.le_trans hl (by decide)
    case qc5 => rw [Nat.zero_add]; omega
    case qc6 => simp
    intro v' w1 hown hgrow hnil
    go_wp2
    go_ret
    exact ⟨v', rfl, by simpa using hown, ((Fr.refl _ _ w).alloc (Nat.le_refl _) _).grown hgrow (by simp) (by intro k hk; simp [Value.ownBlock] at hk; omega)⟩
set_option maxHeartbeats 1000000 in
theorem takeF_any (w : World) (m : Msg) (b : Nat) (k : Int) (hb : b < w.heap.size) (h : w.cell? ⟨b, 0, none⟩ = some (.int .i64 k)) :
    Calls Try.prog 21 #[m.val, .pointer (some ⟨b, 0, none⟩)] w fun e w' => e = .returned (.bool (m.n == k)) ∧ Fr w.heap.size [] w w' := by
  have hF := (Fr.refl w.heap.size [] w).alloc (Nat.le_refl _) (.cells #[.int .i64 m.n, .int .i64 m.src, .int .i64 m.dst, .string m.body] 34)
  have h' := (hF.cell (p := ⟨b, 0, none⟩) hb (by simp)).trans h
  unfold Msg.val
  go_enter Try.func21, Try.ntmps21
  go_wp2
  go_ret
  exact ⟨rfl, hF⟩
set_option maxHeartbeats 1000000 in
theorem dropF_any (w : World) (m : Msg) (b : Nat) (k : Int) (hb : b < w.heap.size) (h : w.cell? ⟨b, 0, none⟩ = some (.int .i64 k)) :
    Calls Try.prog 27 #[m.val, .pointer (some ⟨b, 0, none⟩)] w fun e w' => e = .returned (.bool (m.n == k)) ∧ Fr w.heap.size [] w w' := by
  have hF := (Fr.refl w.heap.size [] w).alloc (Nat.le_refl _) (.cells #[.int .i64 m.n, .int .i64 m.src, .int .i64 m.dst, .string m.body] 34)
  have h' := (hF.cell (p := ⟨b, 0, none⟩) hb (by simp)).trans h
  unfold Msg.val
  go_enter Try.func27, Try.ntmps27
  go_wp2
  go_ret
  exact ⟨rfl, hF⟩
set_option maxHeartbeats 1000000 in
theorem loseF_any (w : World) (m : Msg) (b : Nat) (k : Int) (hb : b < w.heap.size) (h : w.cell? ⟨b, 0, none⟩ = some (.int .i64 k)) :
    Calls Try.prog 28 #[m.val, .pointer (some ⟨b, 0, none⟩)] w fun e w' => e = .returned (.bool (m.src == k || m.dst == k)) ∧ Fr w.heap.size [] w w' := by
  have hF := (Fr.refl w.heap.size [] w).alloc (Nat.le_refl _) (.cells #[.int .i64 m.n, .int .i64 m.src, .int .i64 m.dst, .string m.body] 34)
  have h' := (hF.cell (p := ⟨b, 0, none⟩) hb (by simp)).trans h
  unfold Msg.val
  go_enter Try.func28, Try.ntmps28
  go_wp2
  all_goals
    go_ret
    exact ⟨by simp_all, (Fr.refl w.heap.size [] w).alloc (Nat.le_refl _) _⟩
end Go.Proofs.Ytjlpbhmhnniodaa
