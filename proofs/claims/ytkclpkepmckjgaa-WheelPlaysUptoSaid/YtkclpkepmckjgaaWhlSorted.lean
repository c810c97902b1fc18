/- slices.SortedFunc at a wheel's keys; the wheel's own sorted. -/
import Derived.Test.YtkclpkepmckjgaaWhlSort
import Derived.Test.YtkclpkepmckjgaaWhlTop
namespace Go.Proofs.Ytkclpkepmckjgaa
open Go.RowKit Go.Maps Go.Sort Go.Shelf
open Wh
theorem own_slice {w : World} {base e size n : Nat} {v : Value} {xs : List Value} (h : w.ownsRow base e size v n xs) : ∃ A cp, v = .slice A n cp := by
  rcases h.2 with ⟨h1, h2⟩ | ⟨g, cap, cur, h1, _⟩
  · subst h2; exact ⟨none, 0, h1⟩
  · exact ⟨_, cap, h1⟩
set_option maxHeartbeats 1000000 in
theorem coll_any (w : World) (Bm : Nat) (F : List Nat) (D : List (Key × Tm)) (mp : Value) (hm : MapOf w mp F D) (hl : D.length ≤ 8796093022208) (hB : w.cell? ⟨Bm, 0, none⟩ = some mp) (hBl : Bm < w.heap.size) :
    Calls Try.prog 26 #[.func (.func 28) #[] #[.pointer (some ⟨Bm, 0, none⟩)]] w fun e w' => ∃ (A : Option Addr) (c : Nat) (ks : List Key), e = .returned (.slice A ks.length c) ∧ ks.Perm (D.map Prod.fst) ∧
      w'.ownsRow w.heap.size 9 1 (.slice A ks.length c) ks.length (ks.map KV) ∧ Fr w.heap.size [] w w' := by
  refine (callsIn_wide (n := 4)).1 ?_
  have hfin : ∀ (S : List (List UInt8) → Prop), (∀ ss, S ss → ss.Perm (D.map (·.1.1))) → ∀ (e : Ending) (w' : World), (∃ (v : Value) (ss : List (List UInt8)), e = .returned v ∧ S ss ∧ w'.ownsRow w.heap.size 9 1 v ss.length (ss.map encStr) ∧ (v = .slice none 0 0 ↔ ss = []) ∧ Below w.heap.size w w') →
      ∃ (A : Option Addr) (c : Nat) (ks : List Key), e = .returned (.slice A ks.length c) ∧ ks.Perm (D.map Prod.fst) ∧ w'.ownsRow w.heap.size 9 1 (.slice A ks.length c) ks.length (ks.map KV) ∧ Fr w.heap.size [] w w' := by
    rintro S hS e w' ⟨v, ss, rfl, h1, h2, _, h4⟩
    obtain ⟨ks, k1, k2⟩ := perm_lift (fun k : Key => k.1) (hS ss h1) (D.map Prod.fst) (by rw [List.map_map]; rfl)
    obtain ⟨A, c, rfl⟩ := own_slice h2
    have hlen : ss.length = ks.length := by rw [← k2, List.length_map]
    refine ⟨A, c, ks, by rw [hlen], k1, ?_, Fr.of_below h4 []⟩
    rw [← enc_KV, k2, ← hlen]
    exact h2
  rcases hm with ⟨rfl, rfl⟩ | ⟨b, rfl, hm, _⟩
  · have hseq : SeqGives Fence.wide 2 Try.prog 28 #[.pointer (some ⟨Bm, 0, none⟩)] encStr (fun ss : List (List UInt8) => ss = []) 0 w :=
      AnyZ.keys_gives_nil (ρ := Try.keys22_ren) { Try.keys22 with } Fence.wide _ trivial rfl Bm _ hBl hB
    have cS := AnyZ.collect_in Try.coll26 Fence.wide 4 trivial trivial rfl (by omega) 28 #[.pointer (some ⟨Bm, 0, none⟩)] trivial (enters_of Try.func28 (by kernel_rfl) rfl) _ 0 (Nat.zero_le _) (by omega) w hseq
    exact cS.mono (hfin _ (fun ss h => by rw [h]; exact .nil))
  · obtain ⟨D0, hown, hs, hp⟩ := owns_of hm (by unfold maxLen; omega)
    have hseq : SeqGives Fence.wide 2 Try.prog 28 #[.pointer (some ⟨Bm, 0, none⟩)] encStr (fun ss => ss.Perm (strKeys D0)) (Maps.size D0) w :=
      AnyZ.keys_gives (ρ := Try.keys22_ren) { Try.keys22 with } Fence.wide _ trivial rfl (by omega) Bm b D.length D0 w hBl hB hown
    have cS := AnyZ.collect_in Try.coll26 Fence.wide 4 trivial trivial rfl (by omega) 28 #[.pointer (some ⟨Bm, 0, none⟩)] trivial (enters_of Try.func28 (by kernel_rfl) rfl) _ (Maps.size D0) (by rw [hs]; unfold maxLen; omega) (by omega) w hseq
    exact cS.mono (hfin _ (fun ss h => h.trans hp))
set_option maxHeartbeats 1000000 in
theorem sfunc_any (w : World) (Bm bx g : Nat) (F : List Nat) (n : Int) (D : List (Key × Tm)) (h : WhIs w g F n D) (hl : D.length ≤ 8796093022208) (mp : Value) (hmp : MapOf w mp F D) (hB : w.cell? ⟨Bm, 0, none⟩ = some mp) (hBl : Bm < w.heap.size)
    (hb : w.cell? ⟨bx, 0, none⟩ = some (.pointer (some ⟨g, 0, none⟩))) (hbx : bx < w.heap.size) :
    Calls Try.prog 21 #[.func (.func 28) #[] #[.pointer (some ⟨Bm, 0, none⟩)], .func (.func 23) #[] #[.pointer (some ⟨bx, 0, none⟩)]] w fun e w' => ∃ (A : Option Addr) (c : Nat) (ts : List Key), e = .returned (.slice A ts.length c) ∧ ts.Perm (D.map Prod.fst) ∧
      ts.Pairwise (fun a b => ltOf (cfD D) b a = false) ∧ w'.ownsRow w.heap.size 9 1 (.slice A ts.length c) ts.length (ts.map KV) ∧ Fr w.heap.size [] w w' := by
  have hc := coll_any w Bm F D mp hmp hl hB hBl
  go_enter Try.func21, Try.ntmps21
  go_wp2_with (first
    | (go_at_call 26
       refine hc.mono ?_
       rintro e w1 ⟨A, c, ks, rfl, p1, p2, p3⟩
       have hk : ks.length < 4611686018427387904 := by have := p1.length_eq; simp at this; omega
       have hs := sort_any w1 bx g w.heap.size F n D (h.fr0 p3) ((p3.cell (p := ⟨bx, 0, none⟩) hbx (by simp)).trans hb) (Nat.lt_of_lt_of_le hbx p3.size) A c ks p2 hbx h.lt hk)
    | (go_at_call 27
       refine hs.mono ?_
       rintro e w2 ⟨rfl, ts, q1, q2, q3, q4, q5⟩
       rw [← q1]))
  go_ret
  exact ⟨A, c, ts, by rw [q1]; rfl, q2.trans p1, q3, q4, p3.trans q5⟩
theorem keys_any (mp : Option Nat) (W : World) : Calls Try.prog 22 #[.map mp] W fun e w' => e = .returned (.func (.func 28) #[] #[.pointer (some ⟨W.heap.size, 0, none⟩)]) ∧ w' = W.alloc (.cells #[.map mp] 47) :=
  (callsIn_wide (n := 5)).1 (AnyZ.keys_in Try.keys22 Fence.wide 5 trivial rfl mp W)
set_option maxHeartbeats 1000000 in
theorem wsorted_nil (w : World) : Calls Try.prog 20 #[.pointer none] w fun e w' => e = .returned (.slice none 0 0) ∧ Fr w.heap.size [] w w' := by
  go_enter Try.func20, Try.ntmps20
  go_wp2
  go_ret
  exact ⟨rfl, (Fr.refl _ _ _).alloc (Nat.le_refl _) _⟩
set_option maxHeartbeats 1000000 in
theorem wsorted_any (w : World) (g : Nat) (F : List Nat) (n : Int) (D : List (Key × Tm)) (h : WhIs w g F n D) (hl : D.length ≤ 8796093022208) :
    Calls Try.prog 20 #[.pointer (some ⟨g, 0, none⟩)] w fun e w' => ∃ (A : Option Addr) (c : Nat) (ts : List Key), e = .returned (.slice A ts.length c) ∧ ts.Perm (D.map Prod.fst) ∧
      ts.Pairwise (fun a b => ltOf (cfD D) b a = false) ∧ w'.ownsRow w.heap.size 9 1 (.slice A ts.length c) ts.length (ts.map KV) ∧ Fr w.heap.size [] w w' := by
  obtain ⟨mp, h1, h2⟩ := h.ex
  obtain ⟨mb, rfl⟩ : ∃ mb, mp = .map mb := by
    rcases h2 with ⟨rfl, _⟩ | ⟨b, rfl, _⟩
    · exact ⟨none, rfl⟩
    · exact ⟨some b, rfl⟩
  obtain ⟨w1, e1⟩ : ∃ w1, w1 = w.alloc (.cells #[.pointer (some ⟨g, 0, none⟩)] 24) := ⟨_, rfl⟩
  obtain ⟨w2, e2⟩ : ∃ w2, w2 = w1.alloc (.cells #[.map mb] 47) := ⟨_, rfl⟩
  have f1 : Fr w.heap.size [] w w1 := by rw [e1]; exact (Fr.refl _ _ _).alloc (Nat.le_refl _) _
  have f2 : Fr w.heap.size [] w w2 := by rw [e2]; exact f1.alloc f1.size _
  have b1 : Has w1 w.heap.size 24 [.pointer (some ⟨g, 0, none⟩)] := by rw [e1]; exact Has.new w 24 [_]
  have b2 : Has w2 w.heap.size 24 [.pointer (some ⟨g, 0, none⟩)] := by rw [e2]; exact b1.alloc _
  have m2 : Has w2 w1.heap.size 47 [.map mb] := by rw [e2]; exact Has.new w1 47 [_]
  have c1 : w1.cell? ⟨g, 0, none⟩ = some (.map mb) := (f1.cell (p := ⟨g, 0, none⟩) h1.lt (by simp)).trans (h1.cell 0)
  have c0 : w1.cell? ⟨w.heap.size, 0, none⟩ = some (.pointer (some ⟨g, 0, none⟩)) := b1.cell 0
  have hs := sfunc_any w2 w1.heap.size w.heap.size g F n D (h.fr0 f2) hl (.map mb) (h2.fr h.lt (by simp) f2) (m2.cell 0) m2.lt (b2.cell 0) b2.lt
  have hk := keys_any mb w1
  rw [← e2] at hk
  have hz : w1.heap.size = w.heap.size + 1 := by rw [e1]; simp
  rw [hz] at hk hs
  subst e2
  subst e1
  go_enter Try.func20, Try.ntmps20
  go_wp2_with (first
    | (go_at_call 22; (refine hk.mono ?_); rintro e w3 ⟨rfl, rfl⟩)
    | (go_at_call 21; (refine hs.mono ?_); rintro e w3 ⟨A, c, ts, rfl, q1, q2, q3, q4⟩))
  go_ret
  exact ⟨A, c, ts, rfl, q1, q2, ownsRow_base_a q3 f2.size, f2.trans (q4.mono (by exact f2.size) (by simp))⟩
end Go.Proofs.Ytkclpkepmckjgaa
