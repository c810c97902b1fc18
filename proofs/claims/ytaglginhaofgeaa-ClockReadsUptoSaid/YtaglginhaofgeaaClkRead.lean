/- Read. -/
import Derived.Test.YtaglginhaofgeaaClkText
import Derived.Test.YtaglginhaofgeaaPackTake
namespace Go.Proofs.Ytaglginhaofgeaa
open Go.RowKit Go.Shelf
open Ck Pk
namespace Ck
/-- A dot that may not follow. -/
def badD (acc : List Dot) (d : Dot) : Bool := decide (d.n = 0) || (match acc.getLast? with | none => false | some p => decide (d.a ≤ p.a))
def failE (r : List UInt8) (e x : Int) : List UInt8 × Int := if e = 0 then ([], x) else (r, e)
def goC : Nat → List Dot → List UInt8 → Int → List Dot × List UInt8 × Int
  | 0, acc, r, e => (acc, r, e)
  | k + 1, acc, r, e => if badD acc ⟨(numE r e).1, (numE (numE r e).2.1 (numE r e).2.2).1⟩ then (acc, failE (numE (numE r e).2.1 (numE r e).2.2).2.1 (numE (numE r e).2.1 (numE r e).2.2).2.2 31)
    else goC k (acc ++ [⟨(numE r e).1, (numE (numE r e).2.1 (numE r e).2.2).1⟩]) (numE (numE r e).2.1 (numE r e).2.2).2.1 (numE (numE r e).2.1 (numE r e).2.2).2.2
def doneL (l : List UInt8) (e : Int) : Int := if e = 0 then (if l = [] then 0 else 11) else e
def endC (g : List Dot × List UInt8 × Int) : List Dot × Int := if doneL g.2.1 g.2.2 = 0 then (g.1, 0) else ([], 31)
def readC (l : List UInt8) : List Dot × Int := endC (goC (manyE l 0 2).1 [] (manyE l 0 2).2.1 (manyE l 0 2).2.2)
end Ck
theorem rdl_fr {w w' : World} {b B : Nat} {S : List Nat} {l : List UInt8} {e : Int} (h : RdL w b l e) (hf : Fr B S w w') (hb : b < B) (hs : b ∉ S) : RdL w' b l e := Has.fr h hf hb hs
theorem rdl_alloc {w : World} {b : Nat} {l : List UInt8} {e : Int} (h : RdL w b l e) (o : Obj) : RdL (w.alloc o) b l e := Has.alloc h o
theorem rdl_far {w : World} {b : Nat} {l : List UInt8} {e : Int} (h : RdL w b l e) {p : Addr} (hp : b ≠ p.block) (u : Value) : RdL (w.setCell p u) b l e := Has.far h hp u
theorem rdl_lt {w : World} {b : Nat} {l : List UInt8} {e : Int} (h : RdL w b l e) : b < w.heap.size := Has.lt h
theorem many_le (l : List UInt8) (e ls : Int) : (manyE l e ls).1 ≤ l.length := by
  have h := numE_len l e
  unfold manyE
  split
  · split
    · exact Nat.zero_le _
    · rename_i h1
      exact Nat.le_trans (Nat.not_lt.1 h1) (Nat.le_trans (Nat.div_le_self _ _) h)
  · exact Nat.zero_le _
theorem doneL_any (w : World) (b : Nat) (l : List UInt8) (e : Int) (h : RdL w b l e) :
    Calls Try.prog 50 #[.pointer (some ⟨b, 0, none⟩)] w fun r w' => r = .returned (.int .i64 (doneL l e)) ∧ w = w' := by
  have h1 := done_any w b (mkS l) e h
  have : doneR (mkS l) e = doneL l e := by
    unfold doneR doneL
    rw [mkS_size]
    cases l <;> simp
  rw [this] at h1
  exact h1
theorem failE_any (w : World) (b : Nat) (l : List UInt8) (e x : Int) (h : RdL w b l e) (hx : x ≠ 0) :
    Calls Try.prog 49 #[.pointer (some ⟨b, 0, none⟩), .int .i64 x] w fun r w' => r = .returned (.tuple #[]) ∧ RdL w' b (failE l e x).1 (failE l e x).2 ∧ One b w w' := by
  unfold failE
  by_cases he : e = 0
  · subst he
    rw [if_pos rfl]
    exact (fail_yes w b _ x h hx).mono fun r w' ⟨h1, h2, h3⟩ => ⟨h1, h2, h3⟩
  · rw [if_neg he]
    exact (fail_no w b _ e x h he).mono fun r w' ⟨h1, h2⟩ => ⟨h1, h2 ▸ h, h2 ▸ One.refl _ _⟩
theorem goC_rest : ∀ (k : Nat) (acc : List Dot) (r : List UInt8) (e : Int), (goC k acc r e).1.length ≤ acc.length + k
  | 0, acc, r, e => by simp [goC]
  | k + 1, acc, r, e => by
    unfold goC
    split
    · simp
    · have := goC_rest k (acc ++ [⟨(numE r e).1, (numE (numE r e).2.1 (numE r e).2.2).1⟩]) (numE (numE r e).2.1 (numE r e).2.2).2.1 (numE (numE r e).2.1 (numE r e).2.2).2.2
      rw [List.length_append] at this
      simp only [List.length_singleton] at this
      omega
theorem doneF {r : List UInt8} {e : Int} : doneL (failE r e 31).1 (failE r e 31).2 ≠ 0 := by
  unfold failE
  split
  · simp [doneL]
  · rename_i h; simp [doneL, h]
theorem doneF_any (w : World) (b : Nat) (r : List UInt8) (e : Int) (D : Int) (hD : doneL (failE r e 31).1 (failE r e 31).2 = D) (h : RdL w b (failE r e 31).1 (failE r e 31).2) :
    Calls Try.prog 50 #[.pointer (some ⟨b, 0, none⟩)] w fun r w' => r = .returned (.int .i64 D) ∧ w = w' := hD ▸ doneL_any w b _ _ h
theorem endC_no {a : List Dot} {r : List UInt8} {e : Int} (h : doneL r e ≠ 0) : endC (a, r, e) = ([], 31) := by unfold endC; exact if_neg h
theorem endC_yes {a : List Dot} {r : List UInt8} {e : Int} (h : doneL r e = 0) : endC (a, r, e) = (a, 0) := by unfold endC; exact if_pos h
theorem ones_dot {x y : Value} (hx : x.oneCell' = true) (hy : y.oneCell' = true) : ∀ u ∈ [x, y], u.oneCell' = true := fun u hu => by
  simp only [List.mem_cons, List.not_mem_nil, or_false] at hu
  rcases hu with rfl | rfl
  · exact hx
  · exact hy
set_option maxHeartbeats 2000000 in
set_option maxRecDepth 100000 in
theorem readC_any (w : World) (l : List UInt8) (hl : l.length ≤ 1000000000) :
    Calls Try.prog 16 #[.string (mkS l)] w fun e w' => (∃ v, e = .returned (.tuple #[v, .int .i64 (readC l).2]) ∧ w'.ownsRow w.heap.size 27 2 v (readC l).1.length ((readC l).1.flatMap Dot.cells)) ∧ Fr w.heap.size [] w w' := by
  obtain ⟨i0, hi, hz0, hz1, hz2⟩ := info_parts infoDot
  unfold readC
  have hm := fun W b (h : RdL W b l 0) => manyE_any W b l 0 2 h (by omega) (by decide) (by decide)
  have hml := many_le l 0 2
  obtain ⟨m, hmm⟩ : ∃ m, manyE l 0 2 = m := ⟨_, rfl⟩
  rw [hmm] at hm hml ⊢
  obtain ⟨n, r0, e0⟩ := m
  simp only at hm hml ⊢
  obtain ⟨G, hG⟩ : ∃ G, goC n [] r0 e0 = G := ⟨_, rfl⟩
  rw [hG]
  go_enter Try.func16, Try.ntmps16
  go_wp2_with (first
    | (go_at_call 47; (refine (hm w1 _ h1).mono ?_); rintro e w2 ⟨rfl, h2, o2⟩)
    | (go_at_call 46; (refine (read_any w (mkS l)).mono ?_); rintro e w1 ⟨rfl, h1, f1⟩))
  have hR2 : Fr w.heap.size [] w w2 := f1.one o2 (.inr (Nat.le_refl _))
  go_loopw [5, 12] (fun v i wr => ∃ (k : Nat) (acc : List Dot) (r : List UInt8) (e : Int), k ≤ n ∧ i = .int .i64 (k : Int) ∧ acc.length = k ∧ G = goC (n - k) acc r e ∧ RdL wr w.heap.size r e ∧ wr.ownsRow (w.heap.size + 1) 27 2 v k (acc.flatMap Dot.cells) ∧ Fr w.heap.size [] w wr) (fun _ i _ => n - (intOf i).toNat)
  case atStart => exact ⟨0, [], r0, e0, by omega, rfl, rfl, hG.symm, h2, World.ownsRow_nil _ _ _ _, hR2⟩
  case round =>
    clear h1 h2 o2 f1 hR2 hm
    obtain ⟨k, acc, r, e, hk, rfl, hal, hgo, hrd, hown, hF⟩ := hrel
    have hsz := rdl_lt hrd
    by_cases hlt : k < n
    · have hki : (k : Int) < n := by omega
      rw [show n - k = (n - (k + 1)) + 1 by omega] at hgo
      unfold goC at hgo
      have hx := fun W (h : RdL W w.heap.size r e) => numE_any W w.heap.size r e h
      obtain ⟨q1, hq1⟩ : ∃ q1, numE r e = q1 := ⟨_, rfl⟩
      rw [hq1] at hgo
      simp only [hq1] at hx
      obtain ⟨x1, r1, e1⟩ := q1
      have hy := fun W (h : RdL W w.heap.size r1 e1) => numE_any W w.heap.size r1 e1 h
      obtain ⟨q2, hq2⟩ : ∃ q2, numE r1 e1 = q2 := ⟨_, rfl⟩
      simp only [hq2] at hgo hy hx
      obtain ⟨y1, r2, e2⟩ := q2
      simp only at hgo hy
      have hb5 : some w.heap.size ≠ u5.ownBlock := fun e => by have := (hown.lt _ e.symm).1; omega
      obtain ⟨A5, c5, rfl, _⟩ := own_arow hown
      go_upto_region 7 with (first
          | (go_at_call 48; (refine (hy _ h3).mono ?_); rintro e w4 ⟨rfl, h4, o4⟩)
          | (go_at_call 48; (refine (hx _ hrd).mono ?_); rintro e w3 ⟨rfl, h3, o3⟩))
      have oo := o3.trans o4
      have hown4 := (own_one hown oo hb5).alloc (.cells #[.int .u64 (x1 : Int), .int .u64 (y1 : Int)] 27)
      have hrd4 := rdl_alloc h4 (.cells #[.int .u64 (x1 : Int), .int .u64 (y1 : Int)] 27)
      have hF4 : Fr w.heap.size [] w (w4.alloc (.cells #[.int .u64 (x1 : Int), .int .u64 (y1 : Int)] 27)) := (hF.one oo (.inr (Nat.le_refl _))).alloc (by have := oo.size; omega) _
      have HM : Has (w4.alloc (.cells #[.int .u64 (x1 : Int), .int .u64 (y1 : Int)] 27)) w4.heap.size 27 [.int .u64 (x1 : Int), .int .u64 (y1 : Int)] := Has.new _ _ _
      have hs4 : w.heap.size < w4.heap.size := rdl_lt h4
      obtain ⟨W4, hW4⟩ : ∃ W4, w4.alloc (.cells #[.int .u64 (x1 : Int), .int .u64 (y1 : Int)] 27) = W4 := ⟨_, rfl⟩
      have hsz4 : Hid (W4.heap.size = w4.heap.size + 1) := by refine Lib.hid ?_; rw [← hW4]; simp
      rw [hW4] at hown4 hrd4 hF4 HM ⊢
      clear hW4 h4 h3 o3 o4 oo hx hy hrd hown hF
      obtain ⟨_, _, he5, hr5⟩ := own_arow hown4
      obtain ⟨rfl, -, rfl⟩ : A5 = _ ∧ k = k ∧ c5 = _ := by injection he5 with q1 q2 q3; exact ⟨q1, rfl, q3⟩
      clear he5
      have t0 : W4.cell? ⟨w4.heap.size, 0, none⟩ = some (.int .u64 (x1 : Int)) := HM.cell 0
      have t1 : W4.cell? ⟨w4.heap.size, 1, none⟩ = some (.int .u64 (y1 : Int)) := HM.cell 1
      have HG := Lib.hid hgo
      clear hgo
      by_cases hy0 : y1 = 0
      · subst hy0
        have HG' : Hid (G = (acc, failE r2 e2 31)) := by
          refine Lib.hid ?_
          have := HG.out
          rw [if_pos (by unfold badD; simp)] at this
          exact this
        clear HG
        go_quiet (fail)
        obtain ⟨W5, hW5⟩ : ∃ W5, W4.drewN nq = W5 := ⟨_, rfl⟩
        have hF5 : Fr w.heap.size [] w W5 := by rw [← hW5]; exact hF4.drewN nq
        have hrd5 : RdL W5 w.heap.size r2 e2 := by rw [← hW5]; exact hrd4
        rw [hW5]
        clear hW5 hF4 hrd4 hown4 hr5 HM t1 t0
        obtain ⟨D, hDD⟩ : ∃ D, Hid (doneL (failE r2 e2 31).1 (failE r2 e2 31).2 = D) := ⟨_, rfl⟩
        have hD0 : (D != 0) = true := by rw [bne_iff_ne, ← hDD.out]; exact doneF
        go_wp2_with (first
          | (go_at_call 50; (refine (doneF_any _ _ r2 e2 D hDD.out h6).mono ?_); rintro e w7 ⟨rfl, rfl⟩)
          | (go_at_call 49; (refine (failE_any _ _ r2 e2 31 hrd5 (by decide)).mono ?_); rintro e w6 ⟨rfl, h6, o6⟩))
        go_ret2
        rw [HG'.out, endC_no doneF]
        exact ⟨⟨_, rfl, World.ownsRow_nil _ _ _ _⟩, hF5.one o6 (.inr (Nat.le_refl _))⟩
      · have hyp : 0 < y1 := by omega
        have hyn : ((y1 : Int) == 0) = false := by rw [beq_eq_false_iff_ne]; omega
        by_cases hk0 : k = 0
        · have hkz : decide ((0 : Int) < (k : Int)) = false := by simp; omega
          have HG' : Hid (G = goC (n - (k + 1)) (acc ++ [⟨x1, y1⟩]) r2 e2) := by
            refine Lib.hid ?_
            have := HG.out
            rw [if_neg (by unfold badD; rw [List.length_eq_zero_iff.1 (hal.trans hk0)]; simp; omega)] at this
            exact this
          clear HG
          go_quiet (fail)
          obtain ⟨W5, hW5⟩ : ∃ W5, W4.drewN nq = W5 := ⟨_, rfl⟩
          have hF5 : Fr w.heap.size [] w W5 := by rw [← hW5]; exact hF4.drewN nq
          have hrd5 : RdL W5 w.heap.size r2 e2 := by rw [← hW5]; exact hrd4
          have hown5 : W5.ownsRow (w.heap.size + 1) 27 2 (.slice A5 k c5) k (acc.flatMap Dot.cells) := by rw [← hW5]; exact hown4
          have hm0 : W5.cell? ⟨w4.heap.size, 0, none⟩ = some (.int .u64 (x1 : Int)) := by rw [← hW5]; exact HM.cell 0
          have hm1 : W5.cell? ⟨w4.heap.size, 1, none⟩ = some (.int .u64 (y1 : Int)) := by rw [← hW5]; exact HM.cell 1
          have hz5 : w4.heap.size < W5.heap.size := by rw [← hW5]; exact HM.lt
          rw [hW5]
          clear hW5 hF4 hrd4 hown4 hr5 HM t1 t0
          go_wp2_with (at_builtin; refine wpList_append_has (by rfl) (.tmp 40) (.tmp 42) 23 (by rfl) (w.heap.size + 1) 27 i0 (.agg #[.int .u64 0, .int .u64 0]) 2 16 Try.underlying23 hi hz0 hz1 hz2 rfl (by decide) _ k _ (by rfl) (hown5.alloc _) W5.heap.size 1 [.int .u64 (x1 : Int), .int .u64 (y1 : Int)] (by rfl) (Has.new W5 27 _) rfl (ones_dot rfl rfl) (by unfold maxLen; omega) (by omega) (by simp; omega) ?_; intro v' w6 hB6 hg6 hv6)
          have hf6 : Fr (w.heap.size + 1) [] W5 w6 := ((Fr.refl (w.heap.size + 1) [] W5).alloc (by omega) _).grown hg6 (by simp; omega) (fun q hq => .inr (by have := (hown5.lt q hq).1; omega))
          go_roundw
          case rel => exact ⟨k + 1, acc ++ [⟨x1, y1⟩], r2, e2, by omega, by go_num, by rw [List.length_append, hal]; rfl, HG'.out, rdl_fr hrd5 hf6 (by omega) (by simp), by rw [List.flatMap_append]; exact hB6, hF5.trans (hf6.mono (by omega) (by simp))⟩
          case measure => simp [intOf]; omega
        · have hkp : decide (0 < k) = true := by simp; omega
          obtain ⟨blk, o, rfl, hblk, hcell⟩ := ARow.at (cells := Dot.cells) (c := 2) hr5 (fun _ => rfl) (by decide) (k - 1) (by omega)
          have tk : W4.cell? ⟨blk, o + (k - 1) * 2, none⟩ = some (.int .u64 ((acc[k - 1]'(by omega)).a : Int)) := hcell 0 _ rfl
          obtain ⟨pk, hpk⟩ : ∃ pk, acc[k - 1]'(by omega) = pk := ⟨_, rfl⟩
          rw [hpk] at tk
          have hlast : acc.getLast? = some pk := by rw [List.getLast?_eq_getElem?, hal, List.getElem?_eq_getElem (by omega), hpk]
          have HPK := Lib.hid hlast
          clear hlast hpk hcell
          have s1 : IntKind.i64.wrap ((k : Int) - 1) = (k : Int) - 1 := IntWalk.i64_in _ (by omega)
          have s2 : (0 : Int) ≤ (k : Int) - 1 := by omega
          have s3 : ((k : Int) - 1).toNat = k - 1 := by omega
          have s4 : (k : Int) - 1 < (k : Int) := by omega
          by_cases hxk : x1 ≤ pk.a
          · have hcmp : decide (x1 ≤ pk.a) = true := by simp; exact hxk
            have HG' : Hid (G = (acc, failE r2 e2 31)) := by
              refine Lib.hid ?_
              have := HG.out
              rw [if_pos (by unfold badD; rw [HPK.out]; simp [hxk])] at this
              exact this
            clear HG
            go_quiet (fail)
            obtain ⟨W5, hW5⟩ : ∃ W5, W4.drewN nq = W5 := ⟨_, rfl⟩
            have hF5 : Fr w.heap.size [] w W5 := by rw [← hW5]; exact hF4.drewN nq
            have hrd5 : RdL W5 w.heap.size r2 e2 := by rw [← hW5]; exact hrd4
            rw [hW5]
            clear hW5 hF4 hrd4 hown4 hr5 HM t1 t0
            obtain ⟨D, hDD⟩ : ∃ D, Hid (doneL (failE r2 e2 31).1 (failE r2 e2 31).2 = D) := ⟨_, rfl⟩
            have hD0 : (D != 0) = true := by rw [bne_iff_ne, ← hDD.out]; exact doneF
            go_wp2_with (first
              | (go_at_call 50; (refine (doneF_any _ _ r2 e2 D hDD.out h6).mono ?_); rintro e w7 ⟨rfl, rfl⟩)
              | (go_at_call 49; (refine (failE_any _ _ r2 e2 31 hrd5 (by decide)).mono ?_); rintro e w6 ⟨rfl, h6, o6⟩))
            go_ret2
            rw [HG'.out, endC_no doneF]
            exact ⟨⟨_, rfl, World.ownsRow_nil _ _ _ _⟩, hF5.one o6 (.inr (Nat.le_refl _))⟩
          · have hcmp : decide (x1 ≤ pk.a) = false := by simp; omega
            have HG' : Hid (G = goC (n - (k + 1)) (acc ++ [⟨x1, y1⟩]) r2 e2) := by
              refine Lib.hid ?_
              have := HG.out
              rw [if_neg (by unfold badD; rw [HPK.out]; simp; omega)] at this
              exact this
            clear HG
            go_quiet (fail)
            obtain ⟨W5, hW5⟩ : ∃ W5, W4.drewN nq = W5 := ⟨_, rfl⟩
            have hF5 : Fr w.heap.size [] w W5 := by rw [← hW5]; exact hF4.drewN nq
            have hrd5 : RdL W5 w.heap.size r2 e2 := by rw [← hW5]; exact hrd4
            have hown5 : W5.ownsRow (w.heap.size + 1) 27 2 (.slice (some ⟨blk, o, none⟩) k c5) k (acc.flatMap Dot.cells) := by rw [← hW5]; exact hown4
            have hm0 : W5.cell? ⟨w4.heap.size, 0, none⟩ = some (.int .u64 (x1 : Int)) := by rw [← hW5]; exact HM.cell 0
            have hm1 : W5.cell? ⟨w4.heap.size, 1, none⟩ = some (.int .u64 (y1 : Int)) := by rw [← hW5]; exact HM.cell 1
            have hz5 : w4.heap.size < W5.heap.size := by rw [← hW5]; exact HM.lt
            rw [hW5]
            clear hW5 hF4 hrd4 hown4 hr5 HM t1 t0
            go_wp2_with (at_builtin; refine wpList_append_has (by rfl) (.tmp 40) (.tmp 42) 23 (by rfl) (w.heap.size + 1) 27 i0 (.agg #[.int .u64 0, .int .u64 0]) 2 16 Try.underlying23 hi hz0 hz1 hz2 rfl (by decide) _ k _ (by rfl) (hown5.alloc _) W5.heap.size 1 [.int .u64 (x1 : Int), .int .u64 (y1 : Int)] (by rfl) (Has.new W5 27 _) rfl (ones_dot rfl rfl) (by unfold maxLen; omega) (by omega) (by simp; omega) ?_; intro v' w6 hB6 hg6 hv6)
            have hf6 : Fr (w.heap.size + 1) [] W5 w6 := ((Fr.refl (w.heap.size + 1) [] W5).alloc (by omega) _).grown hg6 (by simp; omega) (fun q hq => .inr (by have := (hown5.lt q hq).1; omega))
            go_roundw
            case rel => exact ⟨k + 1, acc ++ [⟨x1, y1⟩], r2, e2, by omega, by go_num, by rw [List.length_append, hal]; rfl, HG'.out, rdl_fr hrd5 hf6 (by omega) (by simp), by rw [List.flatMap_append]; exact hB6, hF5.trans (hf6.mono (by omega) (by simp))⟩
            case measure => simp [intOf]; omega
    · obtain rfl : k = n := by omega
      rw [Nat.sub_self] at hgo
      have HG' : Hid (G = (acc, r, e)) := Lib.hid hgo
      clear hgo hG
      have hnk : ¬ ((k : Int) < k) := by omega
      obtain ⟨D, hDD⟩ : ∃ D, Hid (doneL r e = D) := ⟨_, rfl⟩
      have hdn : ∀ W, RdL W w.heap.size r e → Calls Try.prog 50 #[.pointer (some ⟨w.heap.size, 0, none⟩)] W fun r w' => r = .returned (.int .i64 D) ∧ W = w' := fun W h => hDD.out ▸ doneL_any W _ _ _ h
      by_cases hD : D = 0
      · have hD0 : (D != 0) = false := by rw [hD]; rfl
        go_wp2_with (go_at_call 50; (refine (hdn _ hrd).mono ?_); rintro e w7 ⟨rfl, rfl⟩)
        go_ret2
        rw [HG'.out, endC_yes (hDD.out.trans hD)]
        subst hal
        exact ⟨⟨_, rfl, row_base hown (by omega)⟩, hF⟩
      · have hD0 : (D != 0) = true := by rw [bne_iff_ne]; exact hD
        go_wp2_with (go_at_call 50; (refine (hdn _ hrd).mono ?_); rintro e w7 ⟨rfl, rfl⟩)
        go_ret2
        rw [HG'.out, endC_no (by rw [hDD.out]; exact hD)]
        exact ⟨⟨_, rfl, World.ownsRow_nil _ _ _ _⟩, hF⟩
end Go.Proofs.Ytaglginhaofgeaa
