/- PackBack answers true. -/
import Derived.Test.YtpcbkkccaahdbaaPackBackP
import Derived.Test.YtpcbkkccaahdbaaPackWrites
import Derived.Deep.RegionWith
namespace Go.Proofs.Ytpcbkkccaahdbaa
open Go.RowKit
open Pk
theorem Row.arow {w : World} {b : Nat} {A : Option Addr} {vs : List Value} (h : Row w b A vs) : ARow w w.heap.size A vs := by
  rcases h with h | ⟨blk, o, hA, hr, _⟩
  · exact .inl h
  · cases vs with
    | nil => exact .inl rfl
    | cons v vs => exact .inr ⟨blk, o, hA, World.block_lt_of_cell? w _ (hr 0 v rfl), hr⟩
theorem own_row {w : World} {base n b : Nat} {v : Value} {us : List Th} (h : w.ownsRow base 36 4 v n (us.flatMap Th.cells)) (hn : us.length = n) (hb : b < base) : ∃ A c, v = .slice A n c ∧ Row w b A (us.flatMap Th.cells) := by
  rcases h.2 with ⟨hv, h0⟩ | ⟨g, cap, cur, hv, hbg, hh, r⟩
  · exact ⟨none, 0, by rw [hv, h0], .inl (by rw [List.eq_nil_of_length_eq_zero (by omega : us.length = 0)]; rfl)⟩
  · rw [hv] at h
    refine ⟨_, cap, hv, .inr ⟨g, 0, rfl, fun j u hu => ?_, .inr ⟨by omega, cur, 36, _, hh, by decide⟩⟩⟩
    have hj : j < n * 4 := by
      have := (List.getElem?_eq_some_iff.1 hu).1
      rwa [flatMap_len Th.cells 4 (fun _ => rfl), hn] at this
    have := h.cellAt j hj
    rw [Nat.zero_add, this]
    exact hu
theorem ARow.cells4 {w : World} {N : Nat} {A : Option Addr} {us : List Th} (h : ARow w N A (us.flatMap Th.cells)) (k : Nat) (hk : k < us.length) : ∃ blk o, A = some ⟨blk, o, none⟩ ∧ blk < N ∧
    w.cell? ⟨blk, o + k * 4, none⟩ = some (.int .i64 us[k].kind) ∧ w.cell? ⟨blk, o + k * 4 + 1, none⟩ = some (.int .i64 us[k].least) ∧ w.cell? ⟨blk, o + k * 4 + 2, none⟩ = some (.int .u64 (us[k].n : Int)) ∧ w.cell? ⟨blk, o + k * 4 + 3, none⟩ = some (.string us[k].s) := by
  obtain ⟨blk, o, hA, hb, hc⟩ := h.at (c := 4) (fun _ => rfl) (by decide) k hk
  exact ⟨blk, o, hA, hb, hc 0 _ rfl, hc 1 _ rfl, hc 2 _ rfl, hc 3 _ rfl⟩
theorem guardT : Try.prog.eqGuardType Try.prog.depth 36 = false := by kernel_rfl
theorem stoodT : Try.prog.stoodInHeld 36 = false := by kernel_rfl
theorem drop_flat (us : List Th) (k : Nat) (hk : k < us.length) : (us.drop k).flatMap thB = thB us[k] ++ (us.drop (k + 1)).flatMap thB := by
  rw [List.drop_eq_getElem_cons hk, List.flatMap_cons]
set_option maxHeartbeats 8000000 in
set_option maxRecDepth 100000 in
theorem back_walk (w : World) (A0 : Option Addr) (c0 : Nat) (ts us : List Th) (at_ : Int) (ha0 : -9223372036854775808 ≤ at_) (ha1 : at_ ≤ 9223372036854775807) (hus : us = ts.map norm0) (h0 : ARow w w.heap.size A0 (ts.flatMap Th.cells)) (hl0 : ts.length ≤ 100000000) (hb0 : (us.flatMap thB).length ≤ 100000000)
    (hok : ∀ u ∈ us, u.kind ≠ 5 ∧ u.ok ∧ u.s.size ≤ 100000000) :
    Calls Try.prog 6 #[.slice A0 ts.length c0, .int .i64 at_] w fun e w' => e = .returned (.bool true) ∧ Fr w.heap.size [] w w' := by
  have hul : us.length = ts.length := by rw [hus, List.length_map]
  have hpl := fun W (h : ARow W W.heap.size A0 (ts.flatMap Th.cells)) => plain_any W A0 c0 ts h hl0
  simp only [← hus] at hpl
  have HU := Lib.hid hus
  clear hus
  go_enter Try.func6, Try.ntmps6
  go_wp2_with (first
    | (go_at_call 21; (refine (hpl _ ?_).mono ?_); (exact ((h0.fr f1 (Nat.le_refl _) (by simp)).fr ((Fr.refl w.heap.size [] w1).alloc f1.size _) (Nat.le_refl _) (by simp)).mono (by simp; have := f1.size; omega)); rintro e w2 ⟨v, rfl, hown, f2⟩)
    | (go_at_call 8; (refine (awake02_any w).mono ?_); rintro e w1 ⟨rfl, f1⟩))
  have hsz := f1.size
  have hB0 : Bld 32 w1.heap.size [] w2 := (Bld.new w1 _).fr f2 (by simp) (by simp)
  have hF0 : Fr w.heap.size [] w w2 := (f1.alloc f1.size _).trans (f2.mono (by simp; omega) (by simp))
  obtain ⟨A, c, rfl, hR0⟩ := own_row (b := w1.heap.size) hown hul (by simp)
  have hA0 := hR0.arow
  clear hown hpl f2
  go_loopw [7] (fun i wr => ∃ k : Nat, k ≤ us.length ∧ i = .int .i64 (k : Int) ∧ Bld 32 w1.heap.size ((us.take k).flatMap thB) wr ∧ Fr w.heap.size [] w wr ∧ Row wr w1.heap.size A (us.flatMap Th.cells)) (fun i _ => ts.length - (intOf i).toNat)
  case atStart => exact ⟨0, by omega, rfl, hB0, hF0, hR0⟩
  case round =>
    clear hB0 hF0 hR0 hA0
    obtain ⟨k, hk, rfl, hB, hF, hR⟩ := hrel
    by_cases hlt : k < us.length
    · obtain ⟨x, hx⟩ : ∃ x, Hid (x = us[k]'hlt) := ⟨us[k]'hlt, rfl⟩
      obtain ⟨blk, o, hA, hbk, d0, d1, d2, d3⟩ := hR.arow.cells4 k hlt
      rw [← hx.out] at d0 d1 d2 d3
      subst hA
      obtain ⟨_, hxo, hxs⟩ := hok _ (List.getElem_mem hlt)
      rw [← hx.out] at hxo hxs
      have hle := flat_le thB us k hlt
      rw [← hx.out] at hle
      obtain ⟨PL, hPL⟩ : ∃ PL, Hid (PL = (us.take k).flatMap thB) := ⟨_, rfl⟩
      rw [← hPL.out] at hB hle
      have hki : (k : Int) < ts.length := by omega
      go_wp2_with (go_at_call 9; (refine (lay_any wr _ PL x hB hxo.2.2 (by omega)).mono ?_); rintro e w3 ⟨rfl, hB3, f3⟩)
      go_roundw
      case rel =>
        refine ⟨k + 1, by omega, by go_num, ?_, WFr.fr hF f3 hsz, hR.wfr f3⟩
        rw [flatMap_take thB us k hlt, ← hx.out, ← hPL.out]
        exact hB3
      case measure => simp [intOf]; omega
    · have hkn : k = us.length := by omega
      subst hkn
      have hki : ¬ ((us.length : Int) < ts.length) := by omega
      rw [List.take_length] at hB
      obtain ⟨L0, hL0⟩ : ∃ L0, Hid (L0 = us.flatMap thB) := ⟨_, rfl⟩
      obtain ⟨SB, hSB⟩ : ∃ SB, Hid (SB = mkS L0) := ⟨_, rfl⟩
      rw [← hL0.out] at hB
      have hBy : Calls Try.prog 15 #[.pointer (some ⟨w1.heap.size, 0, none⟩)] wr fun e w' => e = .returned (.string SB) ∧ Bld 32 w1.heap.size L0 w' ∧ WFr w1.heap.size wr w' := by rw [hSB.out]; exact wBytes_any _ L0 wr hB
      go_wp2_with (first
        | (go_at_call 16; (refine (read_any w3 SB).mono ?_); rintro e w4 ⟨rfl, h4, f4⟩)
        | (go_at_call 15; (refine hBy.mono ?_); rintro e w3 ⟨rfl, _, f3⟩))
      have hF3 := WFr.fr hF f3 hsz
      have hA3 := (hR.wfr f3).arow
      clear hR hB hF hBy f3
      have hF4 := hF3.trans (f4.mono hF3.size (by simp))
      have hA4 := hA3.fr f4 (Nat.le_refl _) (by simp)
      rw [hSB.out] at h4
      have hR4 : RdL w4 w3.heap.size ((us.drop 0).flatMap thB) 0 := by rw [List.drop_zero, ← hL0.out]; exact h4
      clear h4
      have hlt4 := hR4.lt
      go_loopw [10] (fun i wr => ∃ k : Nat, k ≤ us.length ∧ i = .int .i64 (k : Int) ∧ RdL wr w3.heap.size ((us.drop k).flatMap thB) 0 ∧ Fr w4.heap.size [w3.heap.size] w4 wr) (fun i _ => ts.length - (intOf i).toNat)
      case atStart => exact ⟨0, by omega, rfl, hR4, Fr.refl _ _ _⟩
      case round =>
        clear hR4
        obtain ⟨k, hk, rfl, hR, hF⟩ := hrel
        by_cases hlt : k < us.length
        · obtain ⟨x, hx⟩ : ∃ x, Hid (x = us[k]'hlt) := ⟨us[k]'hlt, rfl⟩
          obtain ⟨blk, o, hA, hbk, d0, d1, d2, d3⟩ := hA3.cells4 k hlt
          rw [← hx.out] at d0 d1 d2 d3
          subst hA
          have hcell : ∀ W, Fr w4.heap.size [w3.heap.size] w4 W → W.cell? ⟨blk, o + k * 4, none⟩ = some (.int .i64 x.kind) ∧ W.cell? ⟨blk, o + k * 4 + 1, none⟩ = some (.int .i64 x.least) ∧ W.cell? ⟨blk, o + k * 4 + 2, none⟩ = some (.int .u64 (x.n : Int)) ∧ W.cell? ⟨blk, o + k * 4 + 3, none⟩ = some (.string x.s) := fun W hW => by
            have hn : blk ∉ [w3.heap.size] := by simp; omega
            have hl : blk < w4.heap.size := by omega
            have e := fun j => (hW.cell (p := ⟨blk, o + k * 4 + j, none⟩) hl hn).trans (f4.cell (p := ⟨blk, o + k * 4 + j, none⟩) hbk (by simp))
            exact ⟨(e 0).trans d0, (e 1).trans d1, (e 2).trans d2, (e 3).trans d3⟩
          obtain ⟨hxk, hxo, hxs⟩ := hok _ (List.getElem_mem hlt)
          rw [← hx.out] at hxk hxo hxs
          have hle := flat_le thB us k hlt
          rw [← hx.out] at hle
          have hdl : ((us.drop k).flatMap thB).length ≤ 100000000 := by
            have := congrArg List.length (congrArg (List.flatMap thB) (List.take_append_drop k us))
            rw [List.flatMap_append, List.length_append] at this
            omega
          rw [drop_flat us k hlt, ← hx.out] at hR hdl
          obtain ⟨DR, hDR⟩ : ∃ DR, Hid (DR = (us.drop (k + 1)).flatMap thB) := ⟨_, rfl⟩
          rw [← hDR.out] at hR hdl
          obtain ⟨DL, hDL⟩ : ∃ DL, Hid (DL = thB x ++ DR) := ⟨_, rfl⟩
          rw [← hDL.out] at hR hdl
          obtain ⟨⟨zk, zl, zn, zs⟩, hz⟩ : ∃ z, Hid (z = normT x) := ⟨_, rfl⟩
          have hta : ∀ W, RdL W w3.heap.size DL 0 → Calls Try.prog 22 #[.pointer (some ⟨w3.heap.size, 0, none⟩), .agg #[.int .i64 x.kind, .int .i64 x.least, .int .u64 (x.n : Int), .string x.s]] W fun r w' => r = .returned (.agg #[.int .i64 zk, .int .i64 zl, .int .u64 (zn : Int), .string zs]) ∧ RdL w' w3.heap.size DR 0 ∧ Fr W.heap.size [w3.heap.size] W w' := fun W h => by
            have := take_any W w3.heap.size DL 0 x h hxo (by omega) (by omega)
            rw [hDL.out, take_put x hxk hxo.2.2 (by omega), ← hz.out] at this
            exact this
          have hno : ∀ W, Calls Try.prog 23 #[.agg #[.int .i64 x.kind, .int .i64 x.least, .int .u64 (x.n : Int), .string x.s]] W fun r w' => r = .returned (.agg #[.int .i64 zk, .int .i64 zl, .int .u64 (zn : Int), .string zs]) ∧ Fr W.heap.size [] W w' := fun W => by
            have := normal_any W x
            rw [← hz.out] at this
            exact this
          obtain ⟨e0, e1, e2, e3⟩ := hcell wr hF
          obtain ⟨e0', e1', e2', e3'⟩ := hcell wr.drew hF.drew
          have hki : (k : Int) < ts.length := by omega
          have hs1 := hF.size
          have hg := guardT
          have hst := stoodT
          clear hx hz hDL hle hxo hxs hxk d0 d1 d2 d3 hA3 hA4 hF3 hF4 f4 hok hb0 h0 hL0 hSB
          go_wp2
          go_region_with (first
            | (go_at_call 22; (refine (hta _ (by first | exact Has.drew hR | exact q5)).mono ?_); rintro e w6 ⟨rfl, q6, f6⟩; have g6 : Fr w4.heap.size [w3.heap.size] w4 w6 := (by first | exact hF.drew.trans (f6.mono hs1 (by simp)) | exact g5.trans (f6.mono g5.size (by simp))); obtain ⟨e0a, e1a, e2a, e3a⟩ := hcell w6 g6)
            | (go_at_call 23; (refine (hno _).mono ?_); rintro e w5 ⟨rfl, f5⟩; have g5 : Fr w4.heap.size [w3.heap.size] w4 w5 := (by first | exact hF.drew.trans (f5.mono hs1 (by simp)) | exact g6.trans (f5.mono g6.size (by simp))); obtain ⟨e0b, e1b, e2b, e3b⟩ := hcell w5 g5; first | have q5 : RdL w5 w3.heap.size DL 0 := RdL.fr (Has.drew hR) f5 (Nat.lt_of_lt_of_le hlt4 hs1) (by simp) | have q7 : RdL w5 w3.heap.size DR 0 := RdL.fr q6 f5 (Nat.lt_of_lt_of_le hlt4 g6.size) (by simp)))
          all_goals
            go_wp2
            go_roundw
            case rel => exact ⟨k + 1, by omega, by go_num, by rw [← hDR.out]; first | exact q7 | exact q6, by first | (first | exact g5 | exact g5.drew) | (first | exact g6 | exact g6.drew)⟩
            case measure => simp [intOf]; omega
        · have hkn : k = us.length := by omega
          subst hkn
          have hki : ¬ ((us.length : Int) < ts.length) := by omega
          have hR0 : RdL wr w3.heap.size [] 0 := by rw [List.drop_length] at hR; exact hR
          have hDo : Calls Try.prog 24 #[.pointer (some ⟨w3.heap.size, 0, none⟩)] wr fun r w' => r = .returned (.int .i64 0) ∧ wr = w' := done_any wr _ _ _ hR0
          have hLe : Calls Try.prog 18 #[.pointer (some ⟨w3.heap.size, 0, none⟩)] wr fun r w' => r = .returned (.int .i64 0) ∧ wr = w' := leftL wr _ _ _ hR0
          have hF5 : Fr w.heap.size [] w wr := hF4.trans (hF.mono hF4.size (by simp; exact hF3.size))
          have hA5 : ARow wr w3.heap.size A (us.flatMap Th.cells) := hA4.fr hF (by omega) (fun k hk => by simp; omega)
          have hF5' : w3.heap.size ≤ wr.heap.size := by have := hF.size; omega
          clear hR hA4 hA3 hF hF4 f4 hR0 hlt hk
          obtain ⟨w5x, rfl⟩ : ∃ w5x, w5x = wr := ⟨wr, rfl⟩
          by_cases hL : L0.length = 0
          · have hSe : SB = ByteArray.empty := by rw [hSB.out, List.eq_nil_of_length_eq_zero hL]; rfl
            clear hSB
            subst hSe
            go_wp2_with (first
              | (go_at_call 24; (refine hDo.mono ?_); rintro e w6 ⟨rfl, rfl⟩)
              | (go_at_call 18; (refine hLe.mono ?_); rintro e w5 ⟨rfl, rfl⟩))
            go_ret
            exact ⟨rfl, hF5⟩
          · have hSz : SB.size = L0.length := by rw [hSB.out, mkS_size]
            have hne := nonempty_bool (S := SB) (by omega)
            have hlb : L0.length ≤ 100000000 := by rw [hL0.out]; exact hb0
            have hk0 : ∃ k0 : Nat, (0 ≤ at_ ∧ at_ = (k0 : Int)) ∨ (at_ < 0 ∧ -(at_ + 1) = (k0 : Int)) := by
              by_cases h : 0 ≤ at_
              · exact ⟨at_.toNat, .inl ⟨h, by omega⟩⟩
              · exact ⟨(-(at_ + 1)).toNat, .inr ⟨by omega, by omega⟩⟩
            obtain ⟨k0, hk0⟩ := hk0
            obtain ⟨m, hm⟩ : ∃ m, Hid (m = k0 % L0.length) := ⟨_, rfl⟩
            have hmod1 : (k0 : Int) % (L0.length : Int) = (m : Int) := by rw [hm.out]; simp
            have hml : m < L0.length := by rw [hm.out]; exact Nat.mod_lt _ (by omega)
            obtain ⟨S1, hS1⟩ : ∃ S1, SB.extract 0 m = S1 := ⟨_, rfl⟩
            have hkb : k0 < 9223372036854775808 := by omega
            rcases hk0 with ⟨hp, rfl⟩ | ⟨hp, hq⟩
            all_goals
              go_wp2_with (first
                | (go_at_call 16; (refine (read_any w5x S1).mono ?_); rintro e w7 ⟨rfl, h7, f7⟩)
                | (go_at_call 24; (refine hDo.mono ?_); rintro e w6 ⟨rfl, rfl⟩)
                | (go_at_call 18; (refine hLe.mono ?_); rintro e w5 ⟨rfl, rfl⟩))
              have hA7 := (hA5.fr f7 hF5' (by simp)).mono hF5'
              have h7 : RdL w7 w5x.heap.size (runE (us.take 0) (L0.take m, 0)).1 (runE (us.take 0) (L0.take m, 0)).2 := by rw [← hS1, hSB.out, mkS_take] at h7; exact h7
              have hlt7 := h7.lt
              have hF7 : Fr w.heap.size [] w w7 := hF5.trans (f7.mono hF5.size (by simp))
              go_loopw [13] (fun i wr => ∃ k : Nat, k ≤ us.length ∧ i = .int .i64 (k : Int) ∧ RdL wr w5x.heap.size (runE (us.take k) (L0.take m, 0)).1 (runE (us.take k) (L0.take m, 0)).2 ∧ Fr w7.heap.size [w5x.heap.size] w7 wr) (fun i _ => ts.length - (intOf i).toNat)
              case atStart => exact ⟨0, by omega, rfl, h7, Fr.refl _ _ _⟩
              case round =>
                clear h7
                obtain ⟨k, hk, rfl, hR, hF⟩ := hrel
                by_cases hlt : k < us.length
                · obtain ⟨x, hx⟩ : ∃ x, Hid (x = us[k]'hlt) := ⟨us[k]'hlt, rfl⟩
                  obtain ⟨blk, o, hA, hbk, d0, d1, d2, d3⟩ := hA7.cells4 k hlt
                  rw [← hx.out] at d0 d1 d2 d3
                  subst hA
                  have hcell : ∀ W, Fr w7.heap.size [w5x.heap.size] w7 W → W.cell? ⟨blk, o + k * 4, none⟩ = some (.int .i64 x.kind) ∧ W.cell? ⟨blk, o + k * 4 + 1, none⟩ = some (.int .i64 x.least) ∧ W.cell? ⟨blk, o + k * 4 + 2, none⟩ = some (.int .u64 (x.n : Int)) ∧ W.cell? ⟨blk, o + k * 4 + 3, none⟩ = some (.string x.s) := fun W hW => by
                    have hn : blk ∉ [w5x.heap.size] := by simp; omega
                    have hl : blk < w7.heap.size := by omega
                    have e := fun j => (hW.cell (p := ⟨blk, o + k * 4 + j, none⟩) hl hn)
                    exact ⟨(e 0).trans d0, (e 1).trans d1, (e 2).trans d2, (e 3).trans d3⟩
                  obtain ⟨hxk, hxo, hxs⟩ := hok _ (List.getElem_mem hlt)
                  rw [← hx.out] at hxk hxo hxs
                  obtain ⟨e0, e1, e2, e3⟩ := hcell wr hF
                  have hrl := runE_len (us.take k) (L0.take m, 0)
                  simp only [List.length_take] at hrl
                  have hrs := runE_snoc (us.take k) x (L0.take m, 0)
                  rw [hx.out, ← List.take_succ_eq_append_getElem hlt, ← hx.out] at hrs
                  obtain ⟨⟨QL, QE⟩, hQ⟩ : ∃ q, Hid (q = runE (us.take k) (L0.take m, 0)) := ⟨_, rfl⟩
                  obtain ⟨Q2, hQ2⟩ : ∃ q, Hid (q = runE (us.take (k + 1)) (L0.take m, 0)) := ⟨_, rfl⟩
                  rw [← hQ.out] at hR hrl hrs
                  rw [← hQ2.out] at hrs
                  simp only at hR hrl hrs
                  have hta := take_any wr w5x.heap.size QL QE x hR hxo (by omega) (by omega)
                  rw [← hrs] at hta
                  obtain ⟨zv, hz⟩ : ∃ zv, Hid (zv = (takeE x QL QE).1) := ⟨_, rfl⟩
                  rw [← hz.out] at hta
                  have hki : (k : Int) < ts.length := by omega
                  go_wp2_with (go_at_call 22; (refine hta.mono ?_); rintro e w9 ⟨rfl, q9, f9⟩)
                  go_roundw
                  case rel => exact ⟨k + 1, by omega, by go_num, by rw [← hQ2.out]; exact q9, hF.trans (f9.mono hF.size (by simp))⟩
                  case measure => simp [intOf]; omega
                · have hkn : k = us.length := by omega
                  subst hkn
                  have hki : ¬ ((us.length : Int) < ts.length) := by omega
                  have hend : runE us (L0.take m, 0) = ([], 10) := by
                    rw [hL0.out]
                    exact runE_cut us (fun u hu => ⟨(hok u hu).1, (hok u hu).2.1.2.2, by have := (hok u hu).2.2; omega⟩) m (by rw [← hL0.out]; exact hml)
                  rw [List.take_length, hend] at hR
                  have hDo : Calls Try.prog 24 #[.pointer (some ⟨w5x.heap.size, 0, none⟩)] wr fun r w' => r = .returned (.int .i64 10) ∧ wr = w' := done_any wr _ _ _ hR
                  go_wp2_with (go_at_call 24; (refine hDo.mono ?_); rintro e w9 ⟨rfl, rfl⟩)
                  go_ret
                  exact ⟨rfl, hF7.trans (hF.mono hF7.size (by simp; exact hF5.size))⟩
end Go.Proofs.Ytpcbkkccaahdbaa
