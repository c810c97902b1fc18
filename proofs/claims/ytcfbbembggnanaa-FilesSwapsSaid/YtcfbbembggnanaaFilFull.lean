/- FilesFull: the walk. -/
import Derived.Test.YtcfbbembggnanaaFilFullP
import Derived.Deep.CutRange
import Derived.Deep.RegionWith
namespace Go.Proofs.Ytcfbbembggnanaa
open Go.RowKit Go.Maps
theorem FAt.base {B B' : Nat} {K : List Nat} {w w1 W : World} {g : Nat} {S : FS} (h : FAt B' K w1 W g S) (hB : B ≤ B') (hf : Fr B [] w w1) : FAt B K w W g S := by
  obtain ⟨F, D, h1, h2, h3, h4, h5⟩ := h
  exact ⟨F, D, h1, h2, fun q hq => ⟨Nat.le_trans hB (h3 q hq).1, (h3 q hq).2⟩, h4, hf.trans (h5.mono hB (by simp))⟩
theorem text_of {A : Option Addr} {w : World} {N : Nat} {xs : List (List UInt8)} (h : ARow w N A (xs.map strV)) (k : Nat) (hk : k < xs.length) : ∃ blk o, A = some ⟨blk, o, none⟩ ∧ blk < N ∧ w.cell? ⟨blk, o + k, none⟩ = some (strV xs[k]) := by
  rcases h with h | ⟨blk, o, hA, hb, hr⟩
  · simp at h; subst h; simp at hk
  · exact ⟨blk, o, hA, hb, hr k _ (by simp [hk])⟩
set_option maxRecDepth 100000 in
set_option maxHeartbeats 8000000 in
theorem full_law (w : World) (n : Int) (A : Option Addr) (c : Nat) (ts : List (List UInt8)) (hA : ARow w w.heap.size A (ts.map strV)) (hl : ts.length ≤ 8796093022208) (hb : ∀ s ∈ ts, s.length ≤ 140737488351232) :
    Calls Try.prog 4 #[.int .i64 n, .slice A ts.length c] w fun e w' => e = .returned (.bool true) ∧ Fr w.heap.size [] w w' := by
  obtain ⟨R, hR⟩ : ∃ R, roomE n = R := ⟨_, rfl⟩
  have hRo := roomE_ok n
  rw [hR] at hRo
  go_enter Try.func4, Try.ntmps4
  go_upto_region 2 with (go_at_call 9; (with_reducible refine (awake_any w).mono ?_); rintro e w1 ⟨rfl, f1⟩)
  have c2 := fat_new w1 n
  rw [hR] at c2
  go_upto_region 5 with (go_at_call 10; (with_reducible refine c2.mono ?_); rintro e w2 ⟨rfl, h2⟩)
  have h3 := (h2.keep (.cells #[.string ⟨#[97]⟩, .string ⟨#[98]⟩, .string ⟨#[99]⟩] 9)).base f1.size f1
  have hN := Has.new w2 9 [.string ⟨#[97]⟩, .string ⟨#[98]⟩, .string ⟨#[99]⟩]
  obtain ⟨G, hG⟩ : ∃ G, G = w1.heap.size := ⟨_, rfl⟩
  obtain ⟨N, hN0⟩ : ∃ N, N = w2.heap.size := ⟨_, rfl⟩
  have hNw : w.heap.size ≤ N := by have := h2.lo; have := f1.size; omega
  rw [← hG, ← hN0] at h3
  rw [← hN0] at hN
  go_upto_region 6 with fail
  rw [← hG, ← hN0]
  clear c2 h2 hG
  generalize hw3 : w2.alloc (.cells #[.string ⟨#[97]⟩, .string ⟨#[98]⟩, .string ⟨#[99]⟩] 9) = w3 at *
  clear hw3 hN0
  go_wp2
  go_loopw [8] (fun i wr => ∃ (k : Nat) (S : FS), k ≤ ts.length ∧ i = .int .i64 (k : Int) ∧ FAt w.heap.size [N] w wr G S ∧ FullSt R k S ∧ Has wr N 9 [.string ⟨#[97]⟩, .string ⟨#[98]⟩, .string ⟨#[99]⟩]) (fun i _ => ts.length - (intOf i).toNat)
  case atStart => exact ⟨0, ⟨R, 0, 0, true, []⟩, by omega, rfl, h3, ⟨rfl, rfl, rfl, by simp, by simp [usedP]; omega, by simp⟩, hN⟩
  case round =>
    obtain ⟨k, S, hk, rfl, hS, hF, hNr⟩ := hrel
    by_cases hlt : k < ts.length
    · have hki : (k : Int) < ts.length := by omega
      obtain ⟨hro, hlf, hon, hst, hus, hky⟩ := id hF
      have cU := fat_used hS (by omega)
      obtain ⟨blk, o, rfl, hbk, t0⟩ := text_of hA k hlt
      have hsl : ts[k].length ≤ 140737488351232 := hb _ (List.getElem_mem _)
      obtain ⟨pc, hpc⟩ : ∃ pc, Hid (pc = ts[k]'hlt) := ⟨ts[k]'hlt, rfl⟩
      rw [← hpc.out] at t0 hsl
      obtain ⟨sp, hsp⟩ : ∃ sp : ByteArray, strV pc = .string sp := ⟨_, rfl⟩
      have hsz : sp.size = pc.length := by unfold strV at hsp; injection hsp with hsp; rw [← hsp]; exact strV_len _
      obtain ⟨j, hj, hjm⟩ : ∃ j : Nat, j < 3 ∧ k % 3 = j := ⟨k % 3, Nat.mod_lt _ (by decide), rfl⟩
      have hjt : (k : Int).tmod 3 = (j : Int) := by rw [Int.tmod_eq_emod_of_nonneg (by omega)]; omega
      have hje : (k : Int) % 3 = (j : Int) := by omega
      obtain ⟨x, hx, hxc⟩ : ∃ x : Key, (x = ka ∨ x = kb ∨ x = kc) ∧ wr.cell? ⟨N, j, none⟩ = some (KV x) := by
        rcases (by omega : j = 0 ∨ j = 1 ∨ j = 2) with rfl | rfl | rfl
        · exact ⟨ka, .inl rfl, hNr.cell 0⟩
        · exact ⟨kb, .inr (.inl rfl), hNr.cell 1⟩
        · exact ⟨kc, .inr (.inr rfl), hNr.cell 2⟩
      obtain ⟨sx, hsx⟩ : ∃ sx : ByteArray, KV x = .string sx := ⟨_, rfl⟩
      rw [hsx] at hxc
      rw [hsp] at t0
      have hstep := hF.step hS.nod hx pc
      clear hpc hA hb
      go_upto_region 10 with (go_at_call 15; (with_reducible refine cU.mono ?_); rintro e w4 ⟨rfl, h4, k4⟩)
      have n4 : w4.cell? ⟨N, j, none⟩ = some (.string sx) := k4.cell (by simp) hxc
      have t4 : w4.cell? ⟨blk, o + k, none⟩ = some (.string sp) := (h4.frame.cell (p := ⟨blk, o + k, none⟩) hbk (by simp)).trans t0
      have qA : Calls Try.prog 11 #[.pointer (some ⟨G, 0, none⟩), .string sx, .slice (some ⟨w4.heap.size, 0, none⟩) 1 1] (w4.alloc (.cells #[.string sp] 9)).drew fun e w' => e = .returned (.int .i64 (appS S x pc).1) ∧ FAt w.heap.size [N] w w' G (appS S x pc).2 ∧ Kp [N] wr w' := by
        have hq1 := (h4.keep (.cells ([pc].map strV).toArray 9)).fr (Fr.refl _ _ _).drew
        have hrow := (row_new w4 9 ([pc].map strV)).fr (Fr.refl _ [] _).drew (Nat.le_refl _) (by simp)
        have := fat_append hq1.1 (by rw [hro]; exact hRo) (by rw [hlf]; decide) (by omega) (by omega) x _ 1 [pc] hrow (by simp) (by simp) (by simp; omega)
        simp only [List.map_cons, List.map_nil, hsp, hsx, List.flatten_cons, List.flatten_nil, List.append_nil, List.length_cons, List.length_nil, Nat.zero_add] at this
        exact this.mono fun e w' ⟨z1, z2, z3⟩ => ⟨z1, z2.drop fun k hk => by simp at hk; simp [hk], fun k hk => (z3 k (by simp at hk; simp [hk])).trans ((Below.heap_alloc _ _ k (h4.klt k hk)).trans (k4 k hk))⟩
      have n4a : (w4.alloc (.cells #[.string sp] 9)).cell? ⟨N, j, none⟩ = some (.string sx) := (World.cell?_of_block (w := w4) (a := ⟨N, j, none⟩) (Below.heap_alloc _ _ N (h4.klt N (by simp)))).trans n4
      go_cut [10] from 26 to 37 (fun s10 wc => s10 = .int .i64 (appS S x pc).1 ∧ FAt w.heap.size [N] w wc G (appS S x pc).2 ∧ Kp [N] wr wc)
      case first =>
        rename_i J K1 hJ hK1
        go_region_with (go_at_call 11; (with_reducible refine qA.mono ?_); rintro e w5 ⟨rfl, h5, k5⟩)
        all_goals
          refine hK1 _ _ (Met.intro (hJ _ _ ?_))
          repeat apply Exists.intro
          exact ⟨⟨rfl, h5, k5⟩, rfl⟩
      case rest =>
        obtain ⟨rfl, h5, k5⟩ := hcut
        have t5 : wc.cell? ⟨blk, o + k, none⟩ = some (.string sp) := (h5.frame.cell (p := ⟨blk, o + k, none⟩) hbk (by simp)).trans t0
        have hN5 := k5.has (by simp) hNr
        obtain ⟨⟨hfit, hnot⟩, hnext⟩ := hstep
        obtain ⟨e5, he5⟩ : ∃ e5, (appS S x pc).1 = e5 := ⟨_, rfl⟩
        obtain ⟨S5, hS5⟩ : ∃ S5, (appS S x pc).2 = S5 := ⟨_, rfl⟩
        rw [he5] at hfit hnot ⊢
        rw [hS5] at hfit hnot hnext h5
        have hus5 := hnext.used
        have cU5 := fat_used h5 (by omega)
        have cR := room_any wc n
        rw [hR] at cR
        have hw5 : IntKind.i64.wrap (R - (usedP S.P : Int)) = R - usedP S.P := IntWalk.i64_in _ (by omega)
        clear qA cU hS hF t4 n4 hxc hsx hro hlf hon hst hky
        by_cases hc : (usedP S.P : Int) + pc.length ≤ R
        · obtain ⟨rfl, hu5⟩ := hfit (by omega)
          have hd1 : decide ((pc.length : Int) ≤ R - usedP S.P) = true := by simp; omega
          have hd2 : decide ((usedP S5.P : Int) > R) = false := by simp; omega
          clear hfit hnot hu5
          go_wp2_with (first
            | (go_at_call 15; (with_reducible refine cU5.mono ?_); rintro e w6 ⟨rfl, h6, k6⟩)
            | (go_at_call 16; (with_reducible refine cR.mono ?_); rintro e w6 ⟨rfl, rfl⟩))
          exact ⟨⟨k + 1, S5, by omega, by go_num, h6, hnext, k6.has (by simp) hN5⟩, by simp [intOf]; omega⟩
        · obtain ⟨rfl, hu5⟩ := hnot (by omega)
          have hd1 : decide ((pc.length : Int) ≤ R - usedP S.P) = false := by simp; omega
          have hd2 : decide ((usedP S5.P : Int) > R) = false := by simp; omega
          rw [hu5] at cU5 hd2
          clear hfit hnot hu5
          go_wp2_with (first
            | (go_at_call 15; (with_reducible refine cU6.mono ?_); rintro e w7 ⟨rfl, h7, k7⟩)
            | (go_at_call 15; (with_reducible refine cU5.mono ?_); rintro e w6 ⟨rfl, h6, k6⟩; have cU6 := fat_used h6 (by omega))
            | (go_at_call 16; (with_reducible refine cR.mono ?_); rintro e w6 ⟨rfl, rfl⟩))
          exact ⟨⟨k + 1, S5, by omega, by go_num, h7, hnext, k7.has (by simp) (k6.has (by simp) hN5)⟩, by simp [intOf]; omega⟩
    · obtain rfl : k = ts.length := by omega
      have hki : ¬ ((ts.length : Int) < ts.length) := by omega
      have hfr := hS.frame
      go_wp2
      go_ret
      exact ⟨rfl, hfr⟩
end Go.Proofs.Ytcfbbembggnanaa
