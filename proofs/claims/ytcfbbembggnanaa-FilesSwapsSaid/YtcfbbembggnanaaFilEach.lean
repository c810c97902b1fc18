/- each: a step with each of some files. -/
import Derived.Test.YtcfbbembggnanaaFilSync
import Derived.Shelf.Abstract
namespace Go.Proofs.Ytcfbbembggnanaa
open Go.RowKit Go.Maps
structure EaSt where
  D : FD
  left : Int
  steps : Int
  on : Bool
def eachS (upd : FD → Key → FD) : List Key → EaSt → Int × EaSt
  | [], s => (0, s)
  | x :: xs, s => if thereE s.on s.D x ≠ 0 then (thereE s.on s.D x, s) else if s.left = 1 then (23, ⟨s.D, leftE s.left, s.steps + 1, false⟩) else eachS upd xs ⟨upd s.D x, leftE s.left, s.steps + 1, true⟩
section
variable {w : World} {g : Nat} {F : List Nat} {room left steps : Int} {on : Bool} {D : FD}
set_option maxRecDepth 100000 in
set_option maxHeartbeats 4000000 in
theorem each_any (hd : DkIs w g F room left steps on D) {xs : List Key} (fn : FuncId) (lb : Array Value) (upd : FD → Key → FD) (eg : ∀ args w, (callFunc fn args).run Try.prog w = .ok (.enter fn args) w)
    (hW : ∀ W l' s' o' D' x b fl, DkIs W g F room l' s' o' D' → (x, (b, fl)) ∈ D' → Fr w.heap.size F w W → x ∈ xs → Calls Try.prog fn (#[.pointer (some ⟨b, 0, none⟩)] ++ lb) W fun e w' => e = .returned (.tuple #[]) ∧ DkIs w' g F room l' s' o' (upd D' x) ∧ Fr W.heap.size F W w')
    (A : Option Addr) (c : Nat) (hA : ARow w w.heap.size A (xs.map KV)) (hAF : xs ≠ [] → ∀ blk o, A = some ⟨blk, o, none⟩ → blk ∉ F) (hl : xs.length ≤ 1000000) (hl0 : 0 ≤ left) (hl1 : left ≤ 9223372036854775807) (hs0 : 0 ≤ steps) (hs1 : steps ≤ 1000000000) :
    Calls Try.prog 28 #[.pointer (some ⟨g, 0, none⟩), .slice A xs.length c, .func (.func fn) #[] lb] w fun e w' =>
      e = .returned (.int .i64 (eachS upd xs ⟨D, left, steps, on⟩).1) ∧ DkIs w' g F room (eachS upd xs ⟨D, left, steps, on⟩).2.left (eachS upd xs ⟨D, left, steps, on⟩).2.steps (eachS upd xs ⟨D, left, steps, on⟩).2.on (eachS upd xs ⟨D, left, steps, on⟩).2.D ∧ Fr w.heap.size F w w' := by
  obtain ⟨R, hR⟩ : ∃ R, Hid (R = eachS upd xs ⟨D, left, steps, on⟩) := ⟨_, rfl⟩
  rw [← hR.out]
  go_enter Try.func28, Try.ntmps28
  go_wp2
  go_loopw [13] (fun i wr => ∃ (k : Nat) (S : EaSt), k ≤ xs.length ∧ i = .int .i64 (k : Int) ∧ DkIs wr g F room S.left S.steps S.on S.D ∧ Fr w.heap.size F w wr ∧ Hid (R = eachS upd (xs.drop k) S) ∧ 0 ≤ S.left ∧ S.left ≤ 9223372036854775807 ∧ 0 ≤ S.steps ∧ S.steps ≤ 1000000000 + k) (fun i _ => xs.length - (intOf i).toNat)
  case atStart => exact ⟨0, ⟨D, left, steps, on⟩, by omega, rfl, hd, Fr.refl _ _ _, hR, hl0, hl1, hs0, by simpa using hs1⟩
  case round =>
    obtain ⟨k, ⟨D1, l1, s1, o1⟩, hk, rfl, d1, f1, h1, b0, b1, b2, b3⟩ := hrel
    simp only at d1 b0 b1 b2 b3
    by_cases hlt : k < xs.length
    · have hki : (k : Int) < xs.length := by omega
      obtain ⟨blk, o, rfl, hb, e0⟩ := name_of hA k hlt
      have e1 : wr.cell? ⟨blk, o + k, none⟩ = some (KV xs[k]) := (f1.cell (p := ⟨blk, o + k, none⟩) hb (hAF (fun h0 => by rw [h0] at hlt; simp at hlt) blk o rfl)).trans e0
      have ht := there_any d1 xs[k]
      obtain ⟨s, hs⟩ : ∃ s : ByteArray, KV xs[k] = .string s := ⟨_, rfl⟩
      rw [hs] at ht e1
      have h2 : Hid (R = if thereE o1 D1 xs[k] ≠ 0 then (thereE o1 D1 xs[k], (⟨D1, l1, s1, o1⟩ : EaSt)) else if l1 = 1 then (23, ⟨D1, leftE l1, s1 + 1, false⟩) else eachS upd (xs.drop (k + 1)) ⟨upd D1 xs[k], leftE l1, s1 + 1, true⟩) := by
        refine Lib.hid ?_
        rw [h1.out, List.drop_eq_getElem_cons hlt]
        rfl
      obtain ⟨t, htt⟩ : ∃ t, thereE o1 D1 xs[k] = t := ⟨_, rfl⟩
      rw [htt] at ht
      have hsz := f1.size
      by_cases ht0 : t = 0
      · subst ht0
        have hne : (getL D1 xs[k]).isNone ≠ true := by
          intro h
          unfold thereE at htt
          by_cases h9 : askE o1 [xs[k]] ≠ 0
          · rw [if_pos h9] at htt; exact h9 htt
          · rw [if_neg h9, if_pos h] at htt; omega
        obtain ⟨⟨b, fl⟩, hz⟩ : ∃ z, getL D1 xs[k] = some z := by cases h : getL D1 xs[k] with | none => simp [h] at hne | some z => exact ⟨z, rfl⟩
        have hmem : (xs[k], (b, fl)) ∈ D1 := lookup_in hz
        rw [hz] at ht
        simp only [if_true, Option.map_some, ptrV, PV] at ht
        have hlt1 : s1 ≤ 4611686018427387904 := by omega
        have hle0 : 0 ≤ leftE l1 := by unfold leftE; split <;> omega
        have hle1 : leftE l1 ≤ 9223372036854775807 := by unfold leftE; split <;> omega
        by_cases hl : l1 = 1
        · have hRR : Hid (R = (23, (⟨D1, leftE l1, s1 + 1, false⟩ : EaSt))) := by
            refine Lib.hid ?_
            rw [h2.out, htt, if_neg (by simp), if_pos hl]
          have hlb : (l1 != 1) = false := by simp [hl]
          replace hl : Hid (l1 = 1) := hl
          clear hs htt h1 h2 hne hz hW
          go_wp2_with (first
            | (go_at_call 27; (refine hst.mono ?_); rintro e w3 ⟨rfl, d3, o3⟩)
            | (go_at_call 35; (refine ht.mono ?_); rintro e w2 ⟨rfl, f2⟩; have hst := step_any (d1.fr0 f2) b0 b1 b2 hlt1; rw [hlb] at hst))
          go_ret
          exact ⟨by rw [hRR.out]; rfl, by rw [hRR.out]; exact d3, (f1.trans (f2.mono hsz (by simp))).one o3 (.inl hd.self)⟩
        · have hRR : Hid (R = eachS upd (xs.drop (k + 1)) ⟨upd D1 xs[k], leftE l1, s1 + 1, true⟩) := by
            refine Lib.hid ?_
            rw [h2.out, htt, if_neg (by simp), if_neg hl]
          have hlb : (l1 != 1) = true := by simp [hl]
          clear hs htt h1 h2 hne hz
          go_wp2_with (first
            | (go_at_fn fn; (refine hcall.mono ?_); rintro e w4 ⟨rfl, d4, f4⟩)
            | (go_at_call 27; (refine hst.mono ?_); rintro e w3 ⟨rfl, d3, o3⟩; have f3 := (f1.trans (f2.mono hsz (by simp))).one o3 (.inl hd.self); have hcall := hW w3 _ _ _ D1 xs[k] b fl d3 hmem f3 (List.getElem_mem hlt))
            | (go_at_call 35; (refine ht.mono ?_); rintro e w2 ⟨rfl, f2⟩; have hst := step_any (d1.fr0 f2) b0 b1 b2 hlt1; rw [hlb] at hst))
          exact ⟨⟨k + 1, ⟨upd D1 xs[k], leftE l1, s1 + 1, true⟩, by omega, by go_num, d4, f3.trans (f4.mono f3.size fun _ h _ => h), hRR, hle0, hle1, by show 0 ≤ s1 + 1; omega, by show s1 + 1 ≤ _; omega⟩, by simp [intOf]; omega⟩
      · have htb : (t == 0) = false := by simpa using ht0
        have hRR : Hid (R = (t, (⟨D1, l1, s1, o1⟩ : EaSt))) := by
          refine Lib.hid ?_
          rw [h2.out, htt, if_pos ht0]
        rw [if_neg ht0] at ht
        clear hs htt h1 h2
        go_wp2_with (go_at_call 35; (refine ht.mono ?_); rintro e w2 ⟨rfl, f2⟩)
        go_ret
        exact ⟨by rw [hRR.out]; rfl, by rw [hRR.out]; exact d1.fr0 f2, f1.trans (f2.mono hsz (by simp))⟩
    · obtain rfl : k = xs.length := by omega
      have hRR : Hid (R = (0, (⟨D1, l1, s1, o1⟩ : EaSt))) := by
        refine Lib.hid ?_
        rw [h1.out, List.drop_length]
        rfl
      clear h1
      go_wp2
      go_ret
      exact ⟨by rw [hRR.out]; rfl, by rw [hRR.out]; exact d1, f1⟩
end
end Go.Proofs.Ytcfbbembggnanaa
