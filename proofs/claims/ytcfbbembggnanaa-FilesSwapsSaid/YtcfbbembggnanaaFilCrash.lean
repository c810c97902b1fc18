/- Crash. -/
import Derived.Test.YtcfbbembggnanaaFilLos2
namespace Go.Proofs.Ytcfbbembggnanaa
open Go.RowKit Go.Maps
theorem own_arow {w : World} {base e size n : Nat} {v : Value} {xs : List Value} (h : w.ownsRow base e size v n xs) : ∃ A c, v = .slice A n c ∧ ARow w w.heap.size A xs ∧ ∀ blk o, A = some ⟨blk, o, none⟩ → base ≤ blk := by
  rcases h.2 with ⟨hv, h0⟩ | ⟨g, cap, cur, hv, hbg, hh, r⟩
  · exact ⟨none, 0, by rw [hv, h0], .inl (List.eq_nil_of_length_eq_zero (by rw [h.1, h0, Nat.zero_mul])), fun _ _ h => by cases h⟩
  · rw [hv] at h
    refine ⟨_, cap, hv, .inr ⟨g, 0, rfl, (Array.getElem?_eq_some_iff.1 hh).1, fun j u hu => ?_⟩, fun blk o e => by injection e with e; injection e with e1 e2; omega⟩
    have hj : j < n * size := by
      have := (List.getElem?_eq_some_iff.1 hu).1
      rwa [h.1] at this
    have := h.cellAt j hj
    rw [Nat.zero_add, this]
    exact hu
def looseD (D : FD) (x : Key) : Bool := match getL D x with
  | some z => decide (z.2.firm < z.2.bs.length)
  | none => false
def loseD (D : FD) (x : Key) (p : Int) : FD := D.map fun d => if d.1 = x then (x, (d.2.1, loseFl d.2.2 p)) else d
def crashS : List Key → FD → List Int → FD
  | [], D, _ => D
  | x :: ns, D, ps => crashS ns (loseD D x (pkH ps)) (if looseD D x then ps.tail else ps)
def okF (f : Fl) : Prop := f.firm ≤ f.bs.length ∧ f.bs.length ≤ 140737488355328
theorem okF_lose {f : Fl} (h : okF f) (p : Int) : okF (loseFl f p) := by
  unfold loseFl okF at *
  have := loseN_le p h.1
  split
  · simp only [List.length_take]
    omega
  · simp only
    omega
theorem loseD_is {D : FD} (hn : (D.map Prod.fst).Nodup) {x : Key} {b : Nat} {fl : Fl} (hm : (x, (b, fl)) ∈ D) (p : Int) : (D.map fun d => if d.1 = x then (x, (d.2.1, loseFl fl p)) else d) = loseD D x p := by
  unfold loseD
  refine List.map_congr_left fun d hd => ?_
  by_cases e : d.1 = x
  · have : d = (x, (b, fl)) := nodup_eq hn hd hm e
    subst this
    rfl
  · rw [if_neg e, if_neg e]
theorem loseD_keys (D : FD) (x : Key) (p : Int) : (loseD D x p).map Prod.fst = D.map Prod.fst := by
  unfold loseD
  rw [List.map_map]
  refine List.map_congr_left fun d _ => ?_
  simp only [Function.comp]
  split
  · rename_i e; exact e.symm
  · rfl
theorem loseD_ok {D : FD} (h : ∀ d ∈ D, okF d.2.2) (x : Key) (p : Int) : ∀ d ∈ loseD D x p, okF d.2.2 := by
  intro d hd
  obtain ⟨d0, h0, rfl⟩ := List.mem_map.1 hd
  split
  · exact okF_lose (h d0 h0) p
  · exact h d0 h0
section
variable {w w' : World} {g : Nat} {F : List Nat} {room left steps : Int} {on : Bool} {D : FD}
/-- One file's block is written, beside blocks that are not the disk's. -/
theorem DkIs.file2 (h : DkIs w g F room left steps on D) {x : Key} {b : Nat} {fl : Fl} (hm : (x, (b, fl)) ∈ D) (hk : ∀ k ∈ F, k ≠ b → w'.heap[k]? = w.heap[k]?) (hsz : w.heap.size ≤ w'.heap.size) (nf : Fl) (hc : Has w' b 52 (flC x nf)) :
    DkIs w' g F room left steps on (D.map fun d => if d.1 = x then (x, (d.2.1, nf)) else d) := by
  obtain ⟨mp, h1, h4⟩ := h.ex
  obtain ⟨h5, h6⟩ := h.files _ hm
  have hbg : g ≠ b := h1.ne h5 (by decide)
  have hmap : mapD (D.map fun d => if d.1 = x then (x, (d.2.1, nf)) else d) = mapD D := by
    unfold mapD
    rw [List.map_map]
    refine List.map_congr_left fun d _ => ?_
    simp only [Function.comp]
    split
    · rename_i e; rw [e]
    · rfl
  refine ⟨⟨mp, (hk g h.self hbg).trans h1, ?_⟩, fun d hd => ?_, ?_, ?_, h.self, fun k hkF => Nat.lt_of_lt_of_le (h.lt k hkF) hsz⟩
  · rw [hmap]
    rcases h4 with h4 | ⟨m, e1, e2, e3⟩
    · exact .inl h4
    · refine .inr ⟨m, e1, e2.block (hk m e3 fun e => ?_), e3⟩
      obtain ⟨es, clock, hb, _⟩ := e2
      rw [e] at hb
      simp only at h5
      unfold Has at h5
      rw [h5] at hb
      cases hb
  · obtain ⟨d0, hd0, rfl⟩ := List.mem_map.1 hd
    by_cases e : d0.1 = x
    · have : d0 = (x, (b, fl)) := nodup_eq h.nod hd0 hm e
      subst this
      rw [if_pos rfl]
      exact ⟨hc, h6⟩
    · rw [if_neg e]
      obtain ⟨k1, k2⟩ := h.files d0 hd0
      refine ⟨(hk _ k2 fun e2 => e ?_).trans k1, k2⟩
      have := nodup_eq2 h.apart hd0 hm e2
      rw [this]
  · have : (D.map fun d => if d.1 = x then (x, (d.2.1, nf)) else d).map (·.2.1) = D.map (·.2.1) := by
      rw [List.map_map]
      refine List.map_congr_left fun d _ => ?_
      simp only [Function.comp]
      split <;> rfl
    rw [this]; exact h.apart
  · have : (D.map fun d => if d.1 = x then (x, (d.2.1, nf)) else d).map Prod.fst = D.map Prod.fst := by
      rw [List.map_map]
      refine List.map_congr_left fun d _ => ?_
      simp only [Function.comp]
      split
      · rename_i e; exact e.symm
      · rfl
    rw [this]; exact h.nod
set_option maxHeartbeats 1000000 in
theorem crash_nil (w : World) (A : Option Addr) (n c : Nat) : Calls Try.prog 13 #[.pointer none, .slice A n c] w fun e w' => e = .returned (.tuple #[]) ∧ Fr w.heap.size [] w w' := by
  have f1 := (Fr.refl w.heap.size [] w).alloc (Nat.le_refl _) (.cells #[.slice A n c] 23)
  go_enter Try.func13, Try.ntmps13
  go_wp2
  refine bodyPost_ret (v := .tuple #[]) (by simp [results, Try.results13, go_sem]) rfl ⟨rfl, f1⟩
/-- What Crash gives. -/
def CrashPost (w : World) (g : Nat) (F : List Nat) (room steps : Int) (D : FD) (ps : List Int) (e : Ending) (w' : World) : Prop :=
  ∃ ns : List Key, ns.Perm (D.map Prod.fst) ∧ e = .returned (.tuple #[]) ∧ DkIs w' g F room 0 steps true (crashS ns D ps) ∧ Fr w.heap.size F w w'
set_option maxRecDepth 100000 in
set_option maxHeartbeats 4000000 in
theorem crash_any (hd : DkIs w g F room left steps on D) (hl : D.length ≤ 1000000) (hok : ∀ d ∈ D, okF d.2.2) (A : Option Addr) (c : Nat) (ps : List Int) (hA : ARow w w.heap.size A (ps.map (Value.int .i64))) (hAF : ps ≠ [] → ∀ blk o, A = some ⟨blk, o, none⟩ → blk ∉ F) (hc : ps.length ≤ c) (hpl : ps.length ≤ 4611686018427387904) (hpo : ∀ p ∈ ps, okI p) :
    Calls Try.prog 13 #[.pointer (some ⟨g, 0, none⟩), .slice A ps.length c] w (CrashPost w g F room steps D ps) := by
  have f1 := (Fr.refl w.heap.size [] w).alloc (Nat.le_refl _) (.cells #[.slice A ps.length c] 23)
  have k1 := Has.new w 23 [.slice A ps.length c]
  obtain ⟨w1, hw1⟩ : ∃ w1, w1 = w.alloc (.cells #[.slice A ps.length c] 23) := ⟨_, rfl⟩
  have z1 : w1.heap.size = w.heap.size + 1 := by rw [hw1]; simp
  rw [← hw1] at f1 k1
  have d1 := hd.fr0 f1
  have hF : ∀ k, w.heap.size ≤ k → k ∉ F := fun k hk hm => by have := hd.lt k hm; omega
  have p1 : PkIs w1 w.heap.size F ps := ⟨⟨A, c, k1, hA.fr f1 (Nat.le_refl _) (by simp), hAF, hc⟩, hpo, hpl⟩
  obtain ⟨mp, c1, c2⟩ := d1.ex
  have e0 : w1.cell? ⟨g, 0, none⟩ = some mp := c1.cell 0
  obtain ⟨mb, rfl, hS⟩ := sorted_any c2 (by simpa [mapD] using hl)
  have hK := keys_any mb w1
  have hkeys : (mapD D).map Prod.fst = D.map Prod.fst := by unfold mapD; rw [List.map_map]; rfl
  rw [hkeys] at hS
  simp only [z1] at hS hK
  rw [hw1] at hS hK e0
  clear hA hAF hc hpl hpo c2 k1 hkeys
  go_enter Try.func13, Try.ntmps13
  go_wp2_with (first
      | (go_at_call 32; (with_reducible refine hS.mono ?_); rintro e w2 ⟨v, ns, rfl, hns, hrow, hfr⟩; obtain ⟨B, cp, rfl, hB, hB2⟩ := own_arow hrow)
      | (go_at_call 33; (with_reducible refine hK.mono ?_); rintro e w2 ⟨rfl, rfl⟩))
  rw [← hw1, ← z1] at hfr
  have d2 := d1.fr0 hfr
  have hbk : w.heap.size < w1.heap.size := by omega
  have p2 := p1.fr hfr hbk (by simp) (by simp)
  have f2 : Fr w.heap.size F w w2 := (f1.mono (Nat.le_refl _) (by simp)).trans (hfr.mono (by omega) (by simp))
  have hsz2 := hfr.size
  have hnl : ns.length ≤ 1000000 := by rw [hns.length_eq]; simpa using hl
  obtain ⟨R, hR⟩ : ∃ R, Hid (R = crashS ns D ps) := ⟨_, rfl⟩
  clear hS hK e0 hw1 f1 c1 p1 d1 hrow hfr
  go_loopw [17] (fun i wr => ∃ (k : Nat) (D1 : FD) (ps1 : List Int), k ≤ ns.length ∧ i = .int .i64 (k : Int) ∧ DkIs wr g F room left steps on D1 ∧ PkIs wr w.heap.size F ps1 ∧ (∀ d ∈ D1, okF d.2.2) ∧ D1.map Prod.fst = D.map Prod.fst ∧ Fr w.heap.size F w wr ∧ Fr w2.heap.size (w.heap.size :: F) w2 wr ∧ Hid (R = crashS (ns.drop k) D1 ps1)) (fun i _ => ns.length - (intOf i).toNat)
  case atStart => exact ⟨0, D, ps, by omega, rfl, d2, p2, hok, rfl, f2, Fr.refl _ _ _, hR⟩
  case round =>
    obtain ⟨k, D1, ps1, hk, rfl, e1, e2, e3, e4, e5, e6, e7⟩ := hrel
    by_cases hlt : k < ns.length
    · have hki : (k : Int) < ns.length := by omega
      obtain ⟨blk, o, rfl, hb, n0⟩ := name_of hB k hlt
      have hbn : blk ∉ w.heap.size :: F := by
        have := hB2 blk o rfl
        intro h
        rcases List.mem_cons.1 h with h | h
        · omega
        · exact hF blk (by omega) h
      have n1 := (e6.cell (p := ⟨blk, o + k, none⟩) hb hbn).trans n0
      obtain ⟨y, hy⟩ : ∃ y, Hid (y = ns[k]'hlt) := ⟨ns[k]'hlt, rfl⟩
      have hyk : y ∈ D1.map Prod.fst := by rw [e4, hy.out]; exact hns.mem_iff.1 (List.getElem_mem _)
      obtain ⟨⟨y0, b, fl⟩, hm, rfl⟩ := List.mem_map.1 hyk
      simp only at hy hyk
      rw [← hy.out] at n1
      obtain ⟨m1, m2⟩ := e1.files _ hm
      obtain ⟨mp, q1, q2⟩ := e1.ex
      have q0 : wr.cell? ⟨g, 0, none⟩ = some mp := q1.cell 0
      have hlk := fm_look q2 y0
      rw [get_map, get_of e1.nod hm] at hlk
      simp only [Option.map_some, ptrV, PV] at hlk
      have hof := e3 _ hm
      simp only at hof m1 m2
      have hbw := e1.lt b m2
      have hlo := lose_any m1 hof.1 hof.2 e2 m2 (fun e => hF b (by omega) m2)
      obtain ⟨s, hs⟩ : ∃ s : ByteArray, KV y0 = .string s := ⟨_, rfl⟩
      rw [hs] at n1 hlk
      have hloose : (if fl.firm < fl.bs.length then ps1.tail else ps1) = if looseD D1 y0 then ps1.tail else ps1 := by
        unfold looseD
        rw [get_of e1.nod hm]
        simp
      rw [hloose] at hlo
      have h7 : Hid (R = crashS (ns.drop (k + 1)) (loseD D1 y0 (pkH ps1)) (if looseD D1 y0 then ps1.tail else ps1)) := by
        refine Lib.hid ?_
        rw [e7.out, List.drop_eq_getElem_cons hlt, ← hy.out]
        rfl
      generalize (if looseD D1 y0 then ps1.tail else ps1) = ps2 at *
      replace hy : Hid (y0 = ns[k]'hlt) := hy
      clear hloose n0 q1 q2 hs e7 hyk hof
      go_wp2_with (go_at_call 34; (with_reducible refine hlo.mono ?_); rintro e w4 ⟨rfl, r1, r2, r3⟩)
      have d5 := e1.file2 hm (fun k hk hne => r3.block k (e1.lt k hk) (by simp; exact ⟨hne, fun h => hF k (by omega) hk⟩)) r3.size _ r1
      rw [loseD_is e1.nod hm] at d5
      refine ⟨⟨k + 1, _, _, by omega, by go_num, d5, r2, loseD_ok e3 _ _, by rw [loseD_keys, e4], ?_, ?_, h7⟩, by simp [intOf]; omega⟩
      · exact e5.trans ⟨r3.os, r3.tape, r3.output, r3.size, fun k hk hn => r3.block k (by have := e5.size; omega) (by simp; exact ⟨fun h => hn (h ▸ m2), by omega⟩)⟩
      · exact e6.trans (r3.mono e6.size (fun k h _ => by simp at h; rcases h with rfl | rfl; exact List.mem_cons_of_mem _ m2; exact List.mem_cons_self))
    · obtain rfl : k = ns.length := by omega
      have hRR : Hid (R = D1) := by
        refine Lib.hid ?_
        rw [e7.out, List.drop_length]
        rfl
      have u1 := dk_on e1 true
      have u2 := dk_left u1 (rfl : (0 : Int) = 0)
      obtain ⟨mp, q1, q2⟩ := e1.ex
      have q3 : wr.cell? ⟨g, 3, none⟩ = some (.bool on) := q1.cell 3
      have q4 : wr.cell? ⟨g, 2, none⟩ = some (.int .i64 left) := q1.cell 2
      have z3 := q1.frozen 3
      have z2 := q1.frozen 2
      have fE := (e5.setCell (p := ⟨g, 3, none⟩) (.inl hd.self) (.bool true)).setCell (p := ⟨g, 2, none⟩) (.inl hd.self) (.int .i64 0)
      clear e7 q1 q2 u1
      go_wp2
      refine bodyPost_end (v := .tuple #[]) (by simp [results, Try.results13, go_sem]) rfl ⟨ns, hns, rfl, ?_, fE⟩
      rw [← hR.out, hRR.out]
      exact u2
end
end Go.Proofs.Ytcfbbembggnanaa
