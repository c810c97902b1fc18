/- The writer's methods of many. -/
import Derived.Test.YtpcbkkccaahdbaaPackWrite
import Derived.Outline
namespace Go.Proofs.Ytpcbkkccaahdbaa
open Go.RowKit
open Pk
set_option maxHeartbeats 1000000 in
set_option maxRecDepth 100000 in
theorem wtext_any (b : Nat) (l : List UInt8) (s : ByteArray) (w : World) (h : Bld 32 b l w) (hlen : l.length + (textB s.data.toList).length + 10 ≤ 140737488355328) :
    Calls Try.prog 34 #[.pointer (some ⟨b, 0, none⟩), .string s] w fun e w' => e = .returned (.tuple #[]) ∧ Bld 32 b (l ++ textB s.data.toList) w' ∧ WFr b w w' := by
  have ht : textB s.data.toList = numB s.size ++ s.data.toList := by unfold textB; rw [show s.data.toList.length = s.size by simp]
  have hl2 : (textB s.data.toList).length = (numB s.size).length + s.size := by rw [ht, List.length_append]; simp
  have HT := Lib.hid ht
  clear ht
  go_enter Try.func34, Try.ntmps34
  go_wp2_with (first
   | (go_at_call 48; (refine (wraw_any b _ s _ h1 (by rw [List.length_append]; omega)).mono ?_); rintro e w2 ⟨rfl, h2, hf2⟩)
   | (go_at_call 32; (refine (wnum_any b l s.size _ h (by omega) (by omega)).mono ?_); rintro e w1 ⟨rfl, h1, hf1⟩))
  go_end0
  refine ⟨rfl, ?_, hf1.trans hf2⟩
  rw [List.append_assoc] at h2
  rw [HT.out]
  exact h2
/-- A block that a writer at b leaves alone. -/
def Stay (w : World) (b blk : Nat) : Prop := blk < b ∨ (blk ≠ b ∧ ∃ cs t fz, w.heap[blk]? = some (.cells cs t fz) ∧ t ≠ 5)
theorem Stay.block {w w' : World} {b blk : Nat} (h : Stay w b blk) (hf : WFr b w w') : w'.heap[blk]? = w.heap[blk]? := by
  rcases h with h | ⟨hne, cs, t, fz, hb, ht⟩
  · exact hf.below.block blk h
  · rw [hb]; exact hf.kept blk _ hb (by simpa using hne) (fun c fz e => by injection e with _ e; exact ht e)
theorem Stay.wfr {w w' : World} {b blk : Nat} (h : Stay w b blk) (hf : WFr b w w') : Stay w' b blk := by
  have he := h.block hf
  rcases h with h | ⟨hne, cs, t, fz, hb, ht⟩
  · exact .inl h
  · exact .inr ⟨hne, cs, t, fz, he.trans hb, ht⟩
/-- A slice that is read while a writer at b writes. -/
def Row (w : World) (b : Nat) (A : Option Addr) (vs : List Value) : Prop := vs = [] ∨ ∃ blk o, A = some ⟨blk, o, none⟩ ∧ w.rangeAt blk o vs ∧ Stay w b blk
theorem Row.wfr {w w' : World} {b : Nat} {A : Option Addr} {vs : List Value} (h : Row w b A vs) (hf : WFr b w w') : Row w' b A vs := by
  rcases h with h | ⟨blk, o, hA, hr, hs⟩
  · exact .inl h
  · refine .inr ⟨blk, o, hA, fun j v hv => ?_, hs.wfr hf⟩
    rw [World.cell?_of_block (w := w) (a := ⟨blk, o + j, none⟩) (hs.block hf)]
    exact hr j v hv
theorem Row.at {w : World} {b : Nat} {A : Option Addr} {vs : List Value} (h : Row w b A vs) (k : Nat) (hk : k < vs.length) : ∃ blk o, A = some ⟨blk, o, none⟩ ∧ w.cell? ⟨blk, o + k, none⟩ = some vs[k] := by
  rcases h with rfl | ⟨blk, o, hA, hr, _⟩
  · simp at hk
  · exact ⟨blk, o, hA, hr k _ (List.getElem?_eq_getElem hk)⟩
theorem flatMap_take {α : Type} (f : α → List UInt8) (ns : List α) (k : Nat) (hk : k < ns.length) : (ns.take (k + 1)).flatMap f = (ns.take k).flatMap f ++ f ns[k] := by
  rw [List.take_succ_eq_append_getElem hk, List.flatMap_append]
  simp
theorem flatMap_take_le {α : Type} (f : α → List UInt8) (ns : List α) (k : Nat) : ((ns.take k).flatMap f).length ≤ (ns.flatMap f).length := by
  conv => rhs; rw [← List.take_append_drop k ns, List.flatMap_append, List.length_append]
  omega
set_option maxHeartbeats 1000000 in
set_option maxRecDepth 100000 in
theorem eachU_any (b : Nat) (l : List UInt8) (A : Option Addr) (c : Nat) (w : World) (ns : List Nat) (h : Bld 32 b l w) (hr : Row w b A (ns.map (fun n : Nat => Value.int .u64 (n : Int)))) (hn : ∀ n ∈ ns, n < 18446744073709551616)
    (hN : ns.length ≤ 140737488355328) (hlen : l.length + (ns.flatMap numB).length + 20 ≤ 140737488355328) :
    Calls Try.prog 31 #[.pointer (some ⟨b, 0, none⟩), .slice A ns.length c, .func (.func 32) #[.pointer (some ⟨b, 0, none⟩)] #[]] w fun e w' => e = .returned (.pointer (some ⟨b, 0, none⟩)) ∧ Bld 32 b (l ++ ns.flatMap numB) w' ∧ WFr b w w' := by
  go_enter Try.func31, Try.ntmps31
  go_wp2_with fail
  go_loopw [13] (fun i wr => ∃ k : Nat, k ≤ ns.length ∧ i = .int .i64 (k : Int) ∧ Bld 32 b (l ++ (ns.take k).flatMap numB) wr ∧ WFr b w wr) (fun i _ => ns.length - (intOf i).toNat)
  case atStart => exact ⟨0, by omega, rfl, by simpa using h, WFr.refl _ _⟩
  case round =>
    clear h
    obtain ⟨k, hk, rfl, hB, hF⟩ := hrel
    by_cases hlt : k < ns.length
    · obtain ⟨x, hxe⟩ : ∃ x, Hid (x = ns[k]'hlt) := ⟨ns[k]'hlt, rfl⟩
      obtain ⟨blk, o, hA, hc⟩ := (hr.wfr hF).at k (by simpa using hlt)
      rw [List.getElem_map, ← hxe.out] at hc
      subst hA
      have hx := hn x (by rw [hxe.out]; exact List.getElem_mem _)
      have hle := flatMap_take_le numB ns k
      have hki : (k : Int) < ns.length := by omega
      go_wp2_with (go_at_call 32; (refine (wnum_any b _ x _ hB hx (by rw [List.length_append]; omega)).mono ?_); rintro e w1 ⟨rfl, h1, hf1⟩)
      go_roundw
      case rel => exact ⟨k + 1, by omega, by go_num, by rw [flatMap_take numB ns k hlt, ← hxe.out, ← List.append_assoc]; exact h1, hF.trans hf1⟩
      case measure => simp [intOf]; omega
    · have hkn : k = ns.length := by omega
      have hki : ¬ ((k : Int) < ns.length) := by omega
      rw [hkn, List.take_length] at hB
      go_wp2
      go_ret
      exact ⟨rfl, hB, hF⟩
set_option maxHeartbeats 1000000 in
set_option maxRecDepth 100000 in
theorem eachI_any (b : Nat) (l : List UInt8) (A : Option Addr) (c : Nat) (w : World) (ns : List Int) (h : Bld 32 b l w) (hr : Row w b A (ns.map (fun n : Int => Value.int .i64 n))) (hn : ∀ n ∈ ns, -9223372036854775808 ≤ n ∧ n ≤ 9223372036854775807)
    (hN : ns.length ≤ 140737488355328) (hlen : l.length + (ns.flatMap intB).length + 20 ≤ 140737488355328) :
    Calls Try.prog 44 #[.pointer (some ⟨b, 0, none⟩), .slice A ns.length c, .func (.func 45) #[.pointer (some ⟨b, 0, none⟩)] #[]] w fun e w' => e = .returned (.pointer (some ⟨b, 0, none⟩)) ∧ Bld 32 b (l ++ ns.flatMap intB) w' ∧ WFr b w w' := by
  go_enter Try.func44, Try.ntmps44
  go_wp2_with fail
  go_loopw [13] (fun i wr => ∃ k : Nat, k ≤ ns.length ∧ i = .int .i64 (k : Int) ∧ Bld 32 b (l ++ (ns.take k).flatMap intB) wr ∧ WFr b w wr) (fun i _ => ns.length - (intOf i).toNat)
  case atStart => exact ⟨0, by omega, rfl, by simpa using h, WFr.refl _ _⟩
  case round =>
    clear h
    obtain ⟨k, hk, rfl, hB, hF⟩ := hrel
    by_cases hlt : k < ns.length
    · obtain ⟨x, hxe⟩ : ∃ x, Hid (x = ns[k]'hlt) := ⟨ns[k]'hlt, rfl⟩
      obtain ⟨blk, o, hA, hc⟩ := (hr.wfr hF).at k (by simpa using hlt)
      rw [List.getElem_map, ← hxe.out] at hc
      subst hA
      have hx := hn x (by rw [hxe.out]; exact List.getElem_mem _)
      have hle := flatMap_take_le intB ns k
      have hki : (k : Int) < ns.length := by omega
      go_wp2_with (go_at_call 45; (refine (wint_any b _ x _ hB hx.1 hx.2 (by rw [List.length_append]; omega)).mono ?_); rintro e w1 ⟨rfl, h1, hf1⟩)
      go_roundw
      case rel => exact ⟨k + 1, by omega, by go_num, by rw [flatMap_take intB ns k hlt, ← hxe.out, ← List.append_assoc]; exact h1, hF.trans hf1⟩
      case measure => simp [intOf]; omega
    · have hkn : k = ns.length := by omega
      have hki : ¬ ((k : Int) < ns.length) := by omega
      rw [hkn, List.take_length] at hB
      go_wp2
      go_ret
      exact ⟨rfl, hB, hF⟩
set_option maxHeartbeats 1000000 in
set_option maxRecDepth 100000 in
theorem eachT_any (b : Nat) (l : List UInt8) (A : Option Addr) (c : Nat) (w : World) (ns : List ByteArray) (h : Bld 32 b l w) (hr : Row w b A (ns.map (fun n : ByteArray => Value.string n))) (hn : ∀ n ∈ ns, n.size ≤ n.size)
    (hN : ns.length ≤ 140737488355328) (hlen : l.length + (ns.flatMap (fun s : ByteArray => textB s.data.toList)).length + 20 ≤ 140737488355328) :
    Calls Try.prog 33 #[.pointer (some ⟨b, 0, none⟩), .slice A ns.length c, .func (.func 34) #[.pointer (some ⟨b, 0, none⟩)] #[]] w fun e w' => e = .returned (.pointer (some ⟨b, 0, none⟩)) ∧ Bld 32 b (l ++ ns.flatMap (fun s : ByteArray => textB s.data.toList)) w' ∧ WFr b w w' := by
  go_enter Try.func33, Try.ntmps33
  go_wp2_with fail
  go_loopw [13] (fun i wr => ∃ k : Nat, k ≤ ns.length ∧ i = .int .i64 (k : Int) ∧ Bld 32 b (l ++ (ns.take k).flatMap (fun s : ByteArray => textB s.data.toList)) wr ∧ WFr b w wr) (fun i _ => ns.length - (intOf i).toNat)
  case atStart => exact ⟨0, by omega, rfl, by simpa using h, WFr.refl _ _⟩
  case round =>
    clear h
    obtain ⟨k, hk, rfl, hB, hF⟩ := hrel
    by_cases hlt : k < ns.length
    · obtain ⟨x, hxe⟩ : ∃ x, Hid (x = ns[k]'hlt) := ⟨ns[k]'hlt, rfl⟩
      obtain ⟨blk, o, hA, hc⟩ := (hr.wfr hF).at k (by simpa using hlt)
      rw [List.getElem_map, ← hxe.out] at hc
      subst hA
      have hx := hn x (by rw [hxe.out]; exact List.getElem_mem _)
      have hle := flatMap_take_le (fun s : ByteArray => textB s.data.toList) ns k
      have hki : (k : Int) < ns.length := by omega
      go_wp2_with (go_at_call 34; (refine (wtext_any b _ x _ hB (by rw [List.length_append]; have := flatMap_take_le (fun s : ByteArray => textB s.data.toList) ns (k + 1); rw [flatMap_take (fun s : ByteArray => textB s.data.toList) ns k hlt, List.length_append, ← hxe.out] at this; omega)).mono ?_); rintro e w1 ⟨rfl, h1, hf1⟩)
      go_roundw
      case rel => exact ⟨k + 1, by omega, by go_num, by rw [flatMap_take (fun s : ByteArray => textB s.data.toList) ns k hlt, ← hxe.out, ← List.append_assoc]; exact h1, hF.trans hf1⟩
      case measure => simp [intOf]; omega
    · have hkn : k = ns.length := by omega
      have hki : ¬ ((k : Int) < ns.length) := by omega
      rw [hkn, List.take_length] at hB
      go_wp2
      go_ret
      exact ⟨rfl, hB, hF⟩
set_option maxHeartbeats 1000000 in
set_option maxRecDepth 100000 in
theorem eachR_any (b : Nat) (l : List UInt8) (A : Option Addr) (c : Nat) (w : World) (ns : List ByteArray) (h : Bld 32 b l w) (hr : Row w b A (ns.map (fun n : ByteArray => Value.string n))) (hn : ∀ n ∈ ns, n.size ≤ n.size)
    (hN : ns.length ≤ 140737488355328) (hlen : l.length + (ns.flatMap (fun s : ByteArray => s.data.toList)).length + 20 ≤ 140737488355328) :
    Calls Try.prog 33 #[.pointer (some ⟨b, 0, none⟩), .slice A ns.length c, .func (.func 48) #[.pointer (some ⟨b, 0, none⟩)] #[]] w fun e w' => e = .returned (.pointer (some ⟨b, 0, none⟩)) ∧ Bld 32 b (l ++ ns.flatMap (fun s : ByteArray => s.data.toList)) w' ∧ WFr b w w' := by
  go_enter Try.func33, Try.ntmps33
  go_wp2_with fail
  go_loopw [13] (fun i wr => ∃ k : Nat, k ≤ ns.length ∧ i = .int .i64 (k : Int) ∧ Bld 32 b (l ++ (ns.take k).flatMap (fun s : ByteArray => s.data.toList)) wr ∧ WFr b w wr) (fun i _ => ns.length - (intOf i).toNat)
  case atStart => exact ⟨0, by omega, rfl, by simpa using h, WFr.refl _ _⟩
  case round =>
    clear h
    obtain ⟨k, hk, rfl, hB, hF⟩ := hrel
    by_cases hlt : k < ns.length
    · obtain ⟨x, hxe⟩ : ∃ x, Hid (x = ns[k]'hlt) := ⟨ns[k]'hlt, rfl⟩
      obtain ⟨blk, o, hA, hc⟩ := (hr.wfr hF).at k (by simpa using hlt)
      rw [List.getElem_map, ← hxe.out] at hc
      subst hA
      have hx := hn x (by rw [hxe.out]; exact List.getElem_mem _)
      have hle := flatMap_take_le (fun s : ByteArray => s.data.toList) ns k
      have hki : (k : Int) < ns.length := by omega
      go_wp2_with (go_at_call 48; (refine (wraw_any b _ x _ hB (by rw [List.length_append]; have := flatMap_take_le (fun s : ByteArray => s.data.toList) ns (k + 1); rw [flatMap_take (fun s : ByteArray => s.data.toList) ns k hlt, List.length_append, ← hxe.out] at this; simp only [show x.data.toList.length = x.size by simp] at this; omega)).mono ?_); rintro e w1 ⟨rfl, h1, hf1⟩)
      go_roundw
      case rel => exact ⟨k + 1, by omega, by go_num, by rw [flatMap_take (fun s : ByteArray => s.data.toList) ns k hlt, ← hxe.out, ← List.append_assoc]; exact h1, hF.trans hf1⟩
      case measure => simp [intOf]; omega
    · have hkn : k = ns.length := by omega
      have hki : ¬ ((k : Int) < ns.length) := by omega
      rw [hkn, List.take_length] at hB
      go_wp2
      go_ret
      exact ⟨rfl, hB, hF⟩
set_option maxHeartbeats 1000000 in
set_option maxRecDepth 100000 in
theorem eachB_any (b : Nat) (l : List UInt8) (A : Option Addr) (c : Nat) (w : World) (ns : List Bool) (h : Bld 32 b l w) (hr : Row w b A (ns.map (fun n : Bool => Value.bool n))) (hn : ∀ n ∈ ns, n = n)
    (hN : ns.length ≤ 140737488355328) (hlen : l.length + (ns.flatMap flagB).length + 20 ≤ 140737488355328) :
    Calls Try.prog 46 #[.pointer (some ⟨b, 0, none⟩), .slice A ns.length c, .func (.func 47) #[.pointer (some ⟨b, 0, none⟩)] #[]] w fun e w' => e = .returned (.pointer (some ⟨b, 0, none⟩)) ∧ Bld 32 b (l ++ ns.flatMap flagB) w' ∧ WFr b w w' := by
  go_enter Try.func46, Try.ntmps46
  go_wp2_with fail
  go_loopw [13] (fun i wr => ∃ k : Nat, k ≤ ns.length ∧ i = .int .i64 (k : Int) ∧ Bld 32 b (l ++ (ns.take k).flatMap flagB) wr ∧ WFr b w wr) (fun i _ => ns.length - (intOf i).toNat)
  case atStart => exact ⟨0, by omega, rfl, by simpa using h, WFr.refl _ _⟩
  case round =>
    clear h
    obtain ⟨k, hk, rfl, hB, hF⟩ := hrel
    by_cases hlt : k < ns.length
    · obtain ⟨x, hxe⟩ : ∃ x, Hid (x = ns[k]'hlt) := ⟨ns[k]'hlt, rfl⟩
      obtain ⟨blk, o, hA, hc⟩ := (hr.wfr hF).at k (by simpa using hlt)
      rw [List.getElem_map, ← hxe.out] at hc
      subst hA
      have hx := hn x (by rw [hxe.out]; exact List.getElem_mem _)
      have hle := flatMap_take_le flagB ns k
      have hki : (k : Int) < ns.length := by omega
      go_wp2_with (go_at_call 47; (refine (wflag_any b _ x _ hB (by rw [List.length_append]; omega)).mono ?_); rintro e w1 ⟨rfl, h1, hf1⟩)
      go_roundw
      case rel => exact ⟨k + 1, by omega, by go_num, by rw [flatMap_take flagB ns k hlt, ← hxe.out, ← List.append_assoc]; exact h1, hF.trans hf1⟩
      case measure => simp [intOf]; omega
    · have hkn : k = ns.length := by omega
      have hki : ¬ ((k : Int) < ns.length) := by omega
      rw [hkn, List.take_length] at hB
      go_wp2
      go_ret
      exact ⟨rfl, hB, hF⟩
end Go.Proofs.Ytpcbkkccaahdbaa
