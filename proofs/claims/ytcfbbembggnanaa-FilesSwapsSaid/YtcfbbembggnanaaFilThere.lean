/- there, Read. -/
import Derived.Test.YtcfbbembggnanaaFilUsed
namespace Go.Proofs.Ytcfbbembggnanaa
open Go.RowKit Go.Maps
def ptrV : Option Nat → Value
  | none => .pointer none
  | some b => PV b
theorem fm_look {w : World} {mp : Value} {F : List Nat} {M : List (Key × Nat)} (h : FMap w mp F M) (p : Key) : (Instr.lookup 43 mp (KV p) false).run Try.prog w = .ok (ptrV (getL M p)) w := by
  have hz : (zeroValue 47).run Try.prog w = .ok (.pointer none) w := Try.zeroValue47 w
  rcases h with ⟨rfl, rfl⟩ | ⟨b, rfl, h, _⟩
  · simp [Instr.lookup, run_underlying Try.underlying43, strEnc.keyed.check w _ (keyOf_KV p), Instr.findKey, Instr.findNow, run_underlying Try.underlying9, hz, Result.andThen]
    rfl
  · rw [h.look strEnc Try.underlying43 (fun _ _ => trivial) hz trivial]
    cases hl : getL M p <;> rfl
theorem get_map (D : FD) (x : Key) : getL (mapD D) x = (getL D x).map (·.1) := by
  unfold mapD
  induction D with
  | nil => rfl
  | cons d D ih =>
    obtain ⟨k, z⟩ := d
    rw [List.map_cons, getL_cons, getL_cons, ih]
    split <;> rfl
theorem lookup_in {α β : Type} [DecidableEq α] {D : List (α × β)} {a : α} {v : β} (h : getL D a = some v) : (a, v) ∈ D := by
  induction D with
  | nil => simp [getL] at h
  | cons d D ih =>
    obtain ⟨x, y⟩ := d
    rw [getL_cons] at h
    split at h
    · rename_i e
      subst e
      injection h with h
      subst h
      simp
    · exact List.mem_cons_of_mem _ (ih h)
/-- The error of there. -/
def thereE (on : Bool) (D : FD) (x : Key) : Int := if askE on [x] ≠ 0 then askE on [x] else if (getL D x).isNone = true then 21 else 0
section
variable {w : World} {g : Nat} {F : List Nat} {room left steps : Int} {on : Bool} {D : FD}
set_option maxHeartbeats 1000000 in
theorem there_nil (w : World) (x : Key) : Calls Try.prog 35 #[.pointer none, KV x] w fun e w' => e = .returned (.tuple #[.pointer none, .int .i64 23]) ∧ Fr w.heap.size [] w w' := by
  obtain ⟨s, hs⟩ : ∃ s : ByteArray, KV x = .string s := ⟨_, rfl⟩
  rw [hs]
  go_enter Try.func35, Try.ntmps35
  go_wp2_with (go_at_call 25; (refine (ask_nil _ _ _ _).mono ?_); rintro e w2 ⟨rfl, rfl⟩)
  refine bodyPost_ret (v := .tuple #[.pointer none, .int .i64 23]) (by simp [results, Try.results35, go_sem]) rfl ⟨rfl, (Fr.refl _ _ _).alloc (Nat.le_refl _) _⟩
set_option maxRecDepth 100000 in
set_option maxHeartbeats 1000000 in
theorem there_any (hd : DkIs w g F room left steps on D) (x : Key) : Calls Try.prog 35 #[.pointer (some ⟨g, 0, none⟩), KV x] w fun e w' =>
    e = .returned (.tuple #[if thereE on D x = 0 then ptrV ((getL D x).map (·.1)) else .pointer none, .int .i64 (thereE on D x)]) ∧ Fr w.heap.size [] w w' := by
  obtain ⟨s, hs⟩ : ∃ s : ByteArray, KV x = .string s := ⟨_, rfl⟩
  have f1 : Fr w.heap.size [] w (w.alloc (.cells #[.string s] 9)) := (Fr.refl _ _ _).alloc (Nat.le_refl _) _
  have d1 := hd.fr0 f1
  have hrow := lit_row w [x]
  simp only [List.map_cons, List.map_nil, hs] at hrow
  have ha := ask_any d1 (some ⟨w.heap.size, 0, none⟩) 1 [x] (by simp only [List.map_cons, List.map_nil, hs]; exact hrow) (by simp)
  obtain ⟨mp, h1, h2⟩ := d1.ex
  have c0 : (w.alloc (.cells #[.string s] 9)).cell? ⟨g, 0, none⟩ = some mp := h1.cell 0
  have hl := fm_look h2 x
  rw [get_map, hs] at hl
  unfold thereE
  obtain ⟨a, ha2⟩ : ∃ a, askE on [x] = a := ⟨_, rfl⟩
  rw [ha2] at ha ⊢
  simp only [List.length_cons, List.length_nil, Nat.zero_add] at ha
  rw [hs]
  obtain ⟨q, hq⟩ : ∃ q, (getL D x).map (·.1) = q := ⟨_, rfl⟩
  have hn : (getL D x).isNone = q.isNone := by rw [← hq]; cases getL D x <;> rfl
  rw [hq] at hl
  rw [hn, hq]
  clear hq hn ha2 hs
  by_cases ha0 : a = 0
  · subst ha0
    cases q with
    | none =>
      unfold ptrV at hl
      go_enter Try.func35, Try.ntmps35
      go_wp2_with (go_at_call 25; (refine ha.mono ?_); rintro e w2 ⟨rfl, rfl⟩)
      refine bodyPost_ret (v := .tuple #[.pointer none, .int .i64 21]) (by simp [results, Try.results35, go_sem]) rfl ⟨rfl, f1⟩
    | some b =>
      unfold ptrV PV at hl
      go_enter Try.func35, Try.ntmps35
      go_wp2_with (go_at_call 25; (refine ha.mono ?_); rintro e w2 ⟨rfl, rfl⟩)
      refine bodyPost_ret (v := .tuple #[.pointer (some ⟨b, 0, none⟩), .int .i64 0]) (by simp [results, Try.results35, go_sem]) rfl ⟨rfl, f1⟩
  · have hab : (a == 0) = false := by simpa using ha0
    rw [if_pos ha0, if_neg ha0]
    go_enter Try.func35, Try.ntmps35
    go_wp2_with (go_at_call 25; (refine ha.mono ?_); rintro e w2 ⟨rfl, rfl⟩)
    refine bodyPost_ret (v := .tuple #[.pointer none, .int .i64 a]) (by simp [results, Try.results35, go_sem]) rfl ⟨rfl, f1⟩
set_option maxHeartbeats 1000000 in
theorem read_nil (w : World) (x : Key) : Calls Try.prog 14 #[.pointer none, KV x] w fun e w' => e = .returned (.tuple #[strV [], .int .i64 23]) ∧ Fr w.heap.size [] w w' := by
  have ht := there_nil w x
  obtain ⟨s, hs⟩ : ∃ s : ByteArray, KV x = .string s := ⟨_, rfl⟩
  rw [hs] at ht ⊢
  go_enter Try.func14, Try.ntmps14
  go_wp2_with (go_at_call 35; (refine ht.mono ?_); rintro e w2 ⟨rfl, f2⟩)
  refine bodyPost_ret (v := .tuple #[.string ⟨#[]⟩, .int .i64 23]) (by simp [results, Try.results14, go_sem]) rfl ⟨rfl, f2⟩
def readB (on : Bool) (D : FD) (x : Key) : List UInt8 := if thereE on D x = 0 then ((getL D x).map fun z => z.2.bs).getD [] else []
set_option maxHeartbeats 1000000 in
theorem read_any (hd : DkIs w g F room left steps on D) (x : Key) : Calls Try.prog 14 #[.pointer (some ⟨g, 0, none⟩), KV x] w fun e w' => e = .returned (.tuple #[strV (readB on D x), .int .i64 (thereE on D x)]) ∧ Fr w.heap.size [] w w' := by
  have ht := there_any hd x
  obtain ⟨s, hs⟩ : ∃ s : ByteArray, KV x = .string s := ⟨_, rfl⟩
  rw [hs] at ht ⊢
  unfold readB
  obtain ⟨a, ha⟩ : ∃ a, thereE on D x = a := ⟨_, rfl⟩
  by_cases ha0 : a = 0
  · subst ha0
    have hne : (getL D x).isNone ≠ true := by
      intro h
      unfold thereE at ha
      by_cases h1 : askE on [x] ≠ 0
      · rw [if_pos h1] at ha; exact h1 ha
      · rw [if_neg h1, if_pos h] at ha; omega
    obtain ⟨⟨b, f⟩, hz⟩ : ∃ z, getL D x = some z := by cases h : getL D x with | none => simp [h] at hne | some z => exact ⟨z, rfl⟩
    have hmem : (x, (b, f)) ∈ D := lookup_in hz
    obtain ⟨h3, h4⟩ := hd.files _ hmem
    simp only at h3 h4
    rw [ha, hz] at ht ⊢
    simp only [if_true, Option.map_some, ptrV, PV, Option.getD_some] at ht ⊢
    have hrd : ∀ W, Fr w.heap.size [] w W → W.cell? ⟨b, 0, none⟩ = some (strV f.bs) := fun W hW => (h3.fr hW (hd.lt _ h4) (by simp)).cell 0
    unfold strV at hrd ⊢
    go_enter Try.func14, Try.ntmps14
    go_wp2_with (go_at_call 35; (refine ht.mono ?_); rintro e w2 ⟨rfl, f2⟩; have c0 := hrd _ f2)
    refine bodyPost_ret (v := .tuple #[.string ⟨f.bs.toArray⟩, .int .i64 0]) (by simp [results, Try.results14, go_sem]) rfl ⟨rfl, f2⟩
  · have hab : (a == 0) = false := by simpa using ha0
    rw [ha] at ht ⊢
    rw [if_neg ha0] at ht ⊢
    go_enter Try.func14, Try.ntmps14
    go_wp2_with (go_at_call 35; (refine ht.mono ?_); rintro e w2 ⟨rfl, f2⟩)
    refine bodyPost_ret (v := .tuple #[.string ⟨#[]⟩, .int .i64 a]) (by simp [results, Try.results14, go_sem]) rfl ⟨rfl, f2⟩
end
end Go.Proofs.Ytcfbbembggnanaa
