/- Due, Next. -/
import Derived.Test.YtkclpkepmckjgaaWhlSorted
import Derived.Test.YtkclpkepmckjgaaWhlCancel
import Derived.BigQuiet
namespace Go.Proofs.Ytkclpkepmckjgaa
open Go.RowKit Go.Maps Go.Sort Go.Shelf
open Wh
theorem tm_at (w : World) (a b : Int) : (Instr.field 55 (.agg #[.int .i64 a, .int .i64 b]) 0).run Try.prog w = .ok (.int .i64 a) w := by kernel_rfl
def Wh.takeN (D : List (Key × Tm)) (now : Int) (ts : List Key) : Nat := (ts.takeWhile fun k => decide ((tm D k).at_ ≤ now)).length
theorem Wh.takeN_eq (D : List (Key × Tm)) (now : Int) : ∀ (ts : List Key) (k : Nat), (∀ j (hj : j < ts.length), j < k → (tm D ts[j]).at_ ≤ now) → k ≤ ts.length → (∀ hk : k < ts.length, ¬ (tm D ts[k]).at_ ≤ now) → takeN D now ts = k
  | [], k, _, h2, _ => by simp at h2; simp [takeN, h2]
  | t :: ts, 0, _, _, h3 => by
    have := h3 (by simp)
    simp at this
    simp [takeN, this]
  | t :: ts, k + 1, h1, h2, h3 => by
    have h0 := h1 0 (by simp) (by omega)
    simp at h0
    have := takeN_eq D now ts k (fun j hj hjk => by have := h1 (j + 1) (by simpa using hj) (by omega); simpa using this) (by simpa using h2) (fun hk => by have := h3 (by simpa using hk); simpa using this)
    unfold takeN at *
    rw [List.takeWhile_cons_of_pos (by simpa using h0), List.length_cons, this]
theorem Wh.takeN_le (D : List (Key × Tm)) (now : Int) (ts : List Key) : takeN D now ts ≤ ts.length := List.IsPrefix.length_le (List.takeWhile_prefix _)
theorem row_str {w : World} {base : Nat} {A : Option Addr} {c : Nat} {ts : List Key} (h : w.ownsRow base 9 1 (.slice A ts.length c) ts.length (ts.map KV)) :
    (A = none ∧ c = 0 ∧ ts = []) ∨ ∃ blk cs, A = some ⟨blk, 0, none⟩ ∧ base ≤ blk ∧ Has w blk 9 cs ∧ cs.take ts.length = ts.map KV ∧ ts.length ≤ c ∧ c ≤ maxLen ∧ cs.length = c := by
  rcases h.2 with ⟨hv, h0⟩ | ⟨blk, cap, cur, hv, h1, h2, h3, h4, h5, h6⟩
  · injection hv with hA _ hc
    exact .inl ⟨hA, hc, List.eq_nil_of_length_eq_zero h0⟩
  · injection hv with hA _ hc
    subst hc
    exact .inr ⟨blk, cur.toList, hA, h1, h2, by rw [← h6, Nat.mul_one], h3, h4, by rw [Array.length_toList]; omega⟩
theorem cell_str {w : World} {blk : Nat} {cs : List Value} {ts : List Key} (h : Has w blk 9 cs) (ht : cs.take ts.length = ts.map KV) (k : Nat) (hk : k < ts.length) : w.cell? ⟨blk, k, none⟩ = some (KV ts[k]) := by
  rw [h.cell k]
  have : (cs.take ts.length)[k]? = (ts.map KV)[k]? := by rw [ht]
  rw [List.getElem?_take_of_lt hk] at this
  rw [this]
  simp [hk]
theorem arow_str {w : World} {blk : Nat} {cs : List Value} {ts : List Key} (h : Has w blk 9 cs) (ht : cs.take ts.length = ts.map KV) (k : Nat) : ARow w w.heap.size (some ⟨blk, 0, none⟩) ((ts.take k).map KV) :=
  .inr ⟨blk, 0, rfl, h.lt, fun j v hv => by
    rw [List.getElem?_map, List.getElem?_take] at hv
    by_cases hj : j < k
    · rw [if_pos hj] at hv
      cases ht2 : ts[j]? with
      | none => rw [ht2] at hv; simp at hv
      | some t =>
        rw [ht2] at hv
        simp at hv
        obtain ⟨hl, rfl⟩ := List.getElem?_eq_some_iff.1 ht2
        rw [Nat.zero_add, cell_str h ht j hl, hv]
    · rw [if_neg hj] at hv; simp at hv⟩
/-- The first n of a row of names that the call itself has made. -/
def Wh.OutRow (w : World) (base : Nat) (A : Option Addr) (c : Nat) (xs : List Key) : Prop := (A = none ∧ c = 0 ∧ xs = []) ∨ ∃ blk cs, A = some ⟨blk, 0, none⟩ ∧ base ≤ blk ∧ Has w blk 9 cs ∧ cs.take xs.length = xs.map KV ∧ xs.length ≤ c ∧ c ≤ maxLen ∧ cs.length = c
set_option maxHeartbeats 4000000 in
theorem wdue_any (w : World) (g : Nat) (F : List Nat) (n : Int) (D : List (Key × Tm)) (h : WhIs w g F n D) (hl : D.length ≤ 8796093022208) (now : Int) :
    Calls Try.prog 10 #[.pointer (some ⟨g, 0, none⟩), .int .i64 now] w fun e w' => ∃ (A : Option Addr) (c : Nat) (ts : List Key), e = .returned (.slice A (takeN D now ts) c) ∧ ts.Perm (D.map Prod.fst) ∧
      ts.Pairwise (fun a b => ltOf (cfD D) b a = false) ∧ OutRow w' w.heap.size A c (ts.take (takeN D now ts)) ∧ WhIs w' g F n (cancelS D (ts.take (takeN D now ts))) ∧ Fr w.heap.size F w w' := by
  have hsort := wsorted_any w g F n D h hl
  go_enter Try.func10, Try.ntmps10
  go_upto_region 2 with (
    go_at_call 20
    refine hsort.mono ?_
    rintro e w1 ⟨A, c, ts, rfl, q1, q2, q3, q4⟩)
  have hw1 := h.fr0 q4
  obtain ⟨mp, m1, m2⟩ := hw1.ex
  have hlen : ts.length ≤ 8796093022208 := by have := q1.length_eq; simp at this; omega
  have hcan : ∀ k ≤ ts.length, ∀ W, Fr w1.heap.size [] w1 W → Calls Try.prog 9 #[.pointer (some ⟨g, 0, none⟩), .slice A k c] W fun e w' => (∃ z, e = .returned (.int .i64 z)) ∧ OutRow w' w.heap.size A c (ts.take k) ∧ WhIs w' g F n (cancelS D (ts.take k)) ∧ Fr w.heap.size F w w' := fun k hk W hW => by
    have hxl : (ts.take k).length = k := by rw [List.length_take]; omega
    have hgo : ∀ (hA : ARow W W.heap.size A ((ts.take k).map KV)) (hAF : ∀ blk o, A = some ⟨blk, o, none⟩ → blk ∉ F), Calls Try.prog 9 #[.pointer (some ⟨g, 0, none⟩), .slice A k c] W fun e w' => (∃ z, e = .returned (.int .i64 z)) ∧ WhIs w' g F n (cancelS D (ts.take k)) ∧ Fr W.heap.size F W w' := fun hA hAF => by
      have := wcancel_any W g F n D (hw1.fr hw1.lt (by simp) hW) (by omega) A c (ts.take k) hA (fun _ => hAF) (by omega)
      rw [hxl] at this
      exact this.mono fun e w' ⟨a1, a2, a3, _⟩ => ⟨⟨_, a1⟩, a2, a3⟩
    have hfr : ∀ w', Fr W.heap.size F W w' → Fr w.heap.size F w w' := fun w' hf => ((q4.mono (Nat.le_refl _) (by simp)).trans (hW.mono q4.size (by simp))).trans (hf.mono (Nat.le_trans q4.size hW.size) fun _ h _ => h)
    rcases row_str q3 with ⟨rfl, rfl, rfl⟩ | ⟨blk, cs, rfl, r1, r2, r3, r4, r5, r6⟩
    · refine (hgo (.inl (by simp)) (by simp)).mono fun e w' ⟨a1, a2, a3⟩ => ⟨a1, .inl ⟨rfl, rfl, by simp⟩, a2, hfr w' a3⟩
    · have hbF : blk ∉ F := fun hb => absurd (h.lt blk hb) (by omega)
      have r2' := r2.fr hW r2.lt (by simp)
      refine (hgo (arow_str r2' r3 k) (by rintro _ _ ⟨⟩; exact hbF)).mono fun e w' ⟨a1, a2, a3⟩ => ⟨a1, .inr ⟨blk, cs, rfl, r1, r2'.fr a3 r2'.lt hbF, ?_, by omega, r5, r6⟩, a2, hfr w' a3⟩
      rw [hxl, List.map_take, ← r3, List.take_take, Nat.min_eq_left hk]
  go_wp2
  go_loopw [6] (fun i wr => ∃ k : Nat, k ≤ ts.length ∧ i = .int .i64 (k : Int) ∧ (∀ j (hj : j < ts.length), j < k → (tm D ts[j]).at_ ≤ now) ∧ Fr w1.heap.size [] w1 wr ∧ wr.heap.size = w1.heap.size) (fun i _ => ts.length - (intOf i).toNat)
  case atStart => exact ⟨0, by omega, rfl, fun _ _ h => absurd h (by omega), Fr.refl _ _ _, rfl⟩
  case round =>
    obtain ⟨k, hk, rfl, hall, g3, g4⟩ := hrel
    by_cases hlt : k < ts.length
    · rcases row_str q3 with ⟨-, -, rfl⟩ | ⟨blk, cs, rfl, r1, r2, r3, r4, r5, r6⟩
      · simp at hlt
      · have hki : (k : Int) < ts.length := by omega
        have hkd : decide ((k : Int) < ts.length) = true := decide_eq_true hki
        have hkd2 : decide (k < ts.length) = true := decide_eq_true hlt
        have e0 : wr.cell? ⟨blk, k, none⟩ = some (KV ts[k]) := (g3.cell (p := ⟨blk, k, none⟩) r2.lt (by simp)).trans (cell_str r2 r3 k hlt)
        have d0 : wr.cell? ⟨g, 0, none⟩ = some mp := (g3.cell (p := ⟨g, 0, none⟩) m1.lt (by simp)).trans (m1.cell 0)
        have hk0 : (0 : Int) ≤ k := by omega
        have hlook : (Instr.lookup 47 mp (KV ts[k]) false).run Try.prog wr.drew = .ok (TV (tm D ts[k])) wr.drew := timers_look (m2.fr hw1.lt (by simp) g3.drew) ts[k]
        by_cases hat : (tm D ts[k]).at_ ≤ now
        · obtain ⟨x, hx⟩ : ∃ x, tm D ts[k] = x := ⟨_, rfl⟩
          rw [hx] at hat hlook
          obtain ⟨x0, x1⟩ := x
          have hatd : decide (x0 ≤ now) = true := decide_eq_true hat
          unfold TV at hlook
          have hfd := fun W => tm_at W x0 x1
          go_upto_region 3 with fail
          obtain ⟨Wd, hWd⟩ : ∃ Wd, Hid (Wd = wr.drew) := ⟨_, rfl⟩
          have hrd : ∀ W, W = Wd → W.cell? ⟨blk, k, none⟩ = some (KV ts[k]) ∧ W.cell? ⟨g, 0, none⟩ = some mp ∧ (Instr.lookup 47 mp (KV ts[k]) false).run Try.prog W = .ok (.agg #[.int .i64 x0, .int .i64 x1]) W := fun W hW => by
            rw [hW, hWd.out]
            exact ⟨e0, d0, hlook⟩
          refine wp_region_class (fun W => W = Wd) (by kernel_rfl) (by kernel_rfl) (by rw [hWd.out]) ?_
          repeat
            first
              | (refine wpQuiet_skip (by rfl) ?_; try simp only [Act.put, List.setIfInBounds_toArray, List.set_cons_zero, List.set_cons_succ])
              | (refine wpQuiet_take (by rfl) ?_
                 apply Exists.intro
                 refine ⟨fun W hW => ?_, ?_⟩
                 · first
                     | ((obtain ⟨t0, t1, t2⟩ := hrd _ hW; go_simp); done)
                     | ((obtain ⟨t0, t1, t2⟩ := hrd _ hW; go_simp; exact rfl); done)
                     | (go_simp; done)
                     | (go_simp; exact rfl)
                 try simp only [Act.put, List.setIfInBounds_toArray, List.set_cons_zero, List.set_cons_succ])
          refine wpQuiet_nil ?_
          intro wq hq
          subst hq
          go_wp2
          refine ⟨⟨k + 1, by omega, by go_num, fun j hj hjk => ?_, by rw [hWd.out]; exact g3.drew, by rw [hWd.out]; exact g4⟩, by simp [intOf]; omega⟩
          rcases Nat.lt_or_ge j k with hj2 | hj2
          · exact hall j hj hj2
          · obtain rfl : j = k := by omega
            rw [hx]; exact hat
        · have hm : takeN D now ts = k := takeN_eq D now ts k hall hk fun _ => hat
          obtain ⟨x, hx⟩ : ∃ x, tm D ts[k] = x := ⟨_, rfl⟩
          rw [hx] at hat hlook
          obtain ⟨x0, x1⟩ := x
          have hatd : decide (x0 ≤ now) = false := decide_eq_false hat
          unfold TV at hlook
          have hfd := fun W => tm_at W x0 x1
          go_upto_region 3 with fail
          obtain ⟨Wd, hWd⟩ : ∃ Wd, Hid (Wd = wr.drew) := ⟨_, rfl⟩
          have hrd : ∀ W, W = Wd → W.cell? ⟨blk, k, none⟩ = some (KV ts[k]) ∧ W.cell? ⟨g, 0, none⟩ = some mp ∧ (Instr.lookup 47 mp (KV ts[k]) false).run Try.prog W = .ok (.agg #[.int .i64 x0, .int .i64 x1]) W := fun W hW => by
            rw [hW, hWd.out]
            exact ⟨e0, d0, hlook⟩
          refine wp_region_class (fun W => W = Wd) (by kernel_rfl) (by kernel_rfl) (by rw [hWd.out]) ?_
          repeat
            first
              | (refine wpQuiet_skip (by rfl) ?_; try simp only [Act.put, List.setIfInBounds_toArray, List.set_cons_zero, List.set_cons_succ])
              | (refine wpQuiet_take (by rfl) ?_
                 apply Exists.intro
                 refine ⟨fun W hW => ?_, ?_⟩
                 · first
                     | ((obtain ⟨t0, t1, t2⟩ := hrd _ hW; go_simp); done)
                     | ((obtain ⟨t0, t1, t2⟩ := hrd _ hW; go_simp; exact rfl); done)
                     | (go_simp; done)
                     | (go_simp; exact rfl)
                 try simp only [Act.put, List.setIfInBounds_toArray, List.set_cons_zero, List.set_cons_succ])
          refine wpQuiet_nil ?_
          intro wq hq
          subst hq
          have hWq : Fr w1.heap.size [] w1 wq := by rw [hWd.out]; exact g3.drew
          have hkc : k ≤ c := by omega
          clear hrd hlook hfd hx
          go_wp2_with (go_at_call 9; (with_reducible refine (hcan k hk _ hWq).mono ?_); rintro e w2 ⟨⟨z, rfl⟩, p1, p2, p3⟩)
          go_ret
          exact ⟨some ⟨blk, 0, none⟩, c, ts, by rw [hm]; rfl, q1, q2, by rw [hm]; exact p1, by rw [hm]; exact p2, p3⟩
    · obtain rfl : k = ts.length := by omega
      have hm : takeN D now ts = ts.length := takeN_eq D now ts _ hall hk fun h => absurd h (by omega)
      have hkd : decide ((ts.length : Int) < ts.length) = false := by simp
      have hkd2 : decide (ts.length < ts.length) = false := by simp
      rcases row_str q3 with ⟨rfl, rfl, rfl⟩ | ⟨blk, cs, rfl, r1, r2, r3, r4, r5, r6⟩
      · have hc0 := hcan 0 (Nat.le_refl _)
        clear hcan
        go_upto_region 3 with fail
        go_quiet (fail)
        go_wp2_with (go_at_call 9; (with_reducible refine (hc0 _ (g3.drewN _)).mono ?_); rintro e w2 ⟨⟨z, rfl⟩, p1, p2, p3⟩)
        go_ret
        exact ⟨none, 0, [], by rw [hm]; rfl, q1, q2, by rw [hm]; exact p1, by rw [hm]; exact p2, p3⟩
      · go_upto_region 3 with fail
        go_quiet (fail)
        go_wp2_with (go_at_call 9; (with_reducible refine (hcan _ hk _ (g3.drewN _)).mono ?_); rintro e w2 ⟨⟨z, rfl⟩, p1, p2, p3⟩)
        go_ret
        exact ⟨some ⟨blk, 0, none⟩, c, ts, by rw [hm]; rfl, q1, q2, by rw [hm]; exact p1, by rw [hm]; exact p2, p3⟩
end Go.Proofs.Ytkclpkepmckjgaa
