/- The writer's methods of many. -/
import Derived.Test.YtaglginhaofgeaaPackWrite
import Derived.Outline
-- cut
namespace Go.Proofs.Ytaglginhaofgeaa
open Go.RowKit
open Pk
/-- A block that a writer at b leaves alone. -/
def Stay (w : World) (b blk : Nat) : Prop := blk < b ∨ (blk ≠ b ∧ ∃ cs t fz, w.heap[blk]? = some (.cells cs t fz) ∧ t ≠ 5)
theorem Stay.block {w w' : World} {b blk : Nat} (h : Stay w b blk) (hf : WFr b w w') : w'.heap[blk]? = w.heap[blk]? := by
  rcases h with h | ⟨hne, cs, t, fz, hb, ht⟩
  · exact hf.below.block blk h
  · rw [hb]; exact hf.kept blk _ hb (by simpa using hne) (fun c fz e => by injection e with _ e; exact ht e)
theorem Stay.wfr {w w' : World} {b blk : Nat} (h : Stay w b blk) (hf : WFr b w w') : Stay w' b blk := by
  have he := h.block hf
  rcases h with h | ⟨hne, cs, t, fz, hb, ht⟩
  · exact .inl h
  · exact .inr ⟨hne, cs, t, fz, he.trans hb, ht⟩
/-- A slice that is read while a writer at b writes. -/
def Row (w : World) (b : Nat) (A : Option Addr) (vs : List Value) : Prop := vs = [] ∨ ∃ blk o, A = some ⟨blk, o, none⟩ ∧ w.rangeAt blk o vs ∧ Stay w b blk
theorem Row.wfr {w w' : World} {b : Nat} {A : Option Addr} {vs : List Value} (h : Row w b A vs) (hf : WFr b w w') : Row w' b A vs := by
  rcases h with h | ⟨blk, o, hA, hr, hs⟩
  · exact .inl h
  · refine .inr ⟨blk, o, hA, fun j v hv => ?_, hs.wfr hf⟩
    rw [World.cell?_of_block (w := w) (a := ⟨blk, o + j, none⟩) (hs.block hf)]
    exact hr j v hv
theorem Row.at {w : World} {b : Nat} {A : Option Addr} {vs : List Value} (h : Row w b A vs) (k : Nat) (hk : k < vs.length) : ∃ blk o, A = some ⟨blk, o, none⟩ ∧ w.cell? ⟨blk, o + k, none⟩ = some vs[k] := by
  rcases h with rfl | ⟨blk, o, hA, hr, _⟩
  · simp at hk
  · exact ⟨blk, o, hA, hr k _ (List.getElem?_eq_getElem hk)⟩
theorem flatMap_take {α : Type} (f : α → List UInt8) (ns : List α) (k : Nat) (hk : k < ns.length) : (ns.take (k + 1)).flatMap f = (ns.take k).flatMap f ++ f ns[k] := by
  rw [List.take_succ_eq_append_getElem hk, List.flatMap_append]
  simp
theorem flatMap_take_le {α : Type} (f : α → List UInt8) (ns : List α) (k : Nat) : ((ns.take k).flatMap f).length ≤ (ns.flatMap f).length := by
  conv => rhs; rw [← List.take_append_drop k ns, List.flatMap_append, List.length_append]
  omega
set_option maxHeartbeats 1000000 in
set_option maxRecDepth 100000 in
theorem eachU_any (b : Nat) (l : List UInt8) (A : Option Addr) (c : Nat) (w : World) (ns : List Nat) (h : Bld 84 b l w) (hr : Row w b A (ns.map (fun n : Nat => Value.int .u64 (n : Int)))) (hn : ∀ n ∈ ns, n < 18446744073709551616)
    (hN : ns.length ≤ 140737488355328) (hlen : l.length + (ns.flatMap numB).length + 20 ≤ 140737488355328) :
    Calls Try.prog 71 #[.pointer (some ⟨b, 0, none⟩), .slice A ns.length c, .func (.func 72) #[.pointer (some ⟨b, 0, none⟩)] #[]] w fun e w' => e = .returned (.pointer (some ⟨b, 0, none⟩)) ∧ Bld 84 b (l ++ ns.flatMap numB) w' ∧ WFr b w w' := by
  go_enter Try.func71, Try.ntmps71
  go_wp2_with fail
  go_loopw [13] (fun i wr => ∃ k : Nat, k ≤ ns.length ∧ i = .int .i64 (k : Int) ∧ Bld 84 b (l ++ (ns.take k).flatMap numB) wr ∧ WFr b w wr) (fun i _ => ns.length - (intOf i).toNat)
  case atStart => exact ⟨0, by omega, rfl, by simpa using h, WFr.refl _ _⟩
  case round =>
    clear h
    obtain ⟨k, hk, rfl, hB, hF⟩ := hrel
    by_cases hlt : k < ns.length
    · obtain ⟨x, hxe⟩ : ∃ x, Hid (x = ns[k]'hlt) := ⟨ns[k]'hlt, rfl⟩
      obtain ⟨blk, o, hA, hc⟩ := (hr.wfr hF).at k (by simpa using hlt)
      rw [List.getElem_map, ← hxe.out] at hc
      subst hA
      have hx := hn x (by rw [hxe.out]; exact List.getElem_mem _)
      have hle := flatMap_take_le numB ns k
      have hki : (k : Int) < ns.length := by omega
      go_wp2_with (go_at_call 72; (refine (wnum_any b _ x _ hB hx (by rw [List.length_append]; omega)).mono ?_); rintro e w1 ⟨rfl, h1, hf1⟩)
      go_roundw
      case rel => exact ⟨k + 1, by omega, by go_num, by rw [flatMap_take numB ns k hlt, ← hxe.out, ← List.append_assoc]; exact h1, hF.trans hf1⟩
      case measure => simp [intOf]; omega
    · have hkn : k = ns.length := by omega
      have hki : ¬ ((k : Int) < ns.length) := by omega
      rw [hkn, List.take_length] at hB
      go_wp2
      go_ret
      exact ⟨rfl, hB, hF⟩
end Go.Proofs.Ytaglginhaofgeaa
