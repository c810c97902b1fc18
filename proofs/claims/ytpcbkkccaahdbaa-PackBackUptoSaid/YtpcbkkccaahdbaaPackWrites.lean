/- PackWrites answers true. -/
import Derived.Test.YtpcbkkccaahdbaaPackThings
import Derived.Test.YtpcbkkccaahdbaaClass
namespace Go.Proofs.Ytpcbkkccaahdbaa
open Go.RowKit
open Pk
theorem run_eql_ptr {P : Program} (w : World) {tp te : TypeId} {j : TypeInfo} (a : Addr) (hp : P.underlying tp = some (.pointer te)) (hte : P.info? te = some j) :
    (binOp .eql tp (.pointer (some a)) (.pointer (some a))).run P w = .ok (.bool true) w := by
  have h : ∀ d : Nat, (Op.equalIn (d + 1) tp (.pointer (some a)) (.pointer (some a))).run P w = .ok true w := fun d => by
    simp [Op.equalIn, run_underlying hp, sizeOf, typeInfo, hte, run_sameAddr_same]
  simp only [binOp]
  simp [Op.equal, Op.maxDepth, h 9999]
theorem mkS_app (a b : List UInt8) : mkS a ++ mkS b = mkS (a ++ b) := by
  apply ByteArray.ext
  simp [mkS]
theorem sizeW : (Try.prog.info? 32).map (·.size) = some 2 := by kernel_rfl
theorem flat_le {α : Type} (f : α → List UInt8) (ts : List α) (k : Nat) (hk : k < ts.length) : ((ts.take k).flatMap f).length + (f ts[k]).length ≤ (ts.flatMap f).length := by
  have := flatMap_take_le f ts (k + 1)
  rw [flatMap_take f ts k hk, List.length_append] at this
  exact this
set_option maxHeartbeats 4000000 in
set_option maxRecDepth 100000 in
theorem writes_walk (w : World) (A0 A1 A2 : Option Addr) (c0 c1 c2 : Nat) (ts : List Th) (ns : List Nat) (ss : List ByteArray)
    (h0 : ARow w w.heap.size A0 (ts.flatMap Th.cells)) (h1 : ARow w w.heap.size A1 (ns.flatMap fun n : Nat => [.int .u64 (n : Int)])) (h2 : ARow w w.heap.size A2 (ss.flatMap fun s : ByteArray => [.string s]))
    (htn : ∀ t ∈ ts, t.n < 18446744073709551616) (hnn : ∀ n ∈ ns, n < 18446744073709551616) (hb0 : (ts.flatMap thB).length ≤ 100000000) (hb1 : (ns.flatMap numB).length ≤ 100000000) (hb2 : (ss.flatMap fun s : ByteArray => textB s.data.toList).length ≤ 100000000)
    (hl0 : ts.length ≤ 100000000) (hl1 : ns.length ≤ 100000000) (hl2 : ss.length ≤ 100000000) (hs0 : ∀ t ∈ ts, t.s.size ≤ 100000000) (hs2 : ∀ s ∈ ss, s.size ≤ 100000000) :
    Calls Try.prog 3 #[.slice A0 ts.length c0, .slice A1 ns.length c1, .slice A2 ss.length c2] w fun e w' => e = .returned (.bool true) ∧ Fr w.heap.size [] w w' := by
  obtain ⟨ji, hji, _⟩ := Option.map_eq_some_iff.1 sizeW
  go_enter Try.func3, Try.ntmps3
  go_wp2_with (go_at_call 8; (refine (awake02_any w).mono ?_); rintro e w1 ⟨rfl, f1⟩)
  obtain ⟨W0, hW0⟩ : ∃ W0, (w1.alloc (.cells #[.pointer none, .slice none 0 0] 32)) = W0 := ⟨_, rfl⟩
  have hB0 : Bld 32 w1.heap.size [] W0 := by rw [← hW0]; exact Bld.new w1 _
  have hF0 : Fr w.heap.size [] w W0 := by rw [← hW0]; exact f1.alloc f1.size _
  have hsz := f1.size
  refine wp_world hW0 ?_
  clear hW0
  go_loopw [9, 10] (fun want i wr => ∃ k : Nat, k ≤ ts.length ∧ i = .int .i64 (k : Int) ∧ want = .string (mkS ((ts.take k).flatMap thB)) ∧ Bld 32 w1.heap.size ((ts.take k).flatMap thB) wr ∧ Fr w.heap.size [] w wr) (fun _ i _ => ts.length - (intOf i).toNat)
  case atStart => exact ⟨0, by omega, rfl, rfl, hB0, hF0⟩
  case round =>
    clear hB0 hF0
    obtain ⟨k, hk, rfl, rfl, hB, hF⟩ := hrel
    by_cases hlt : k < ts.length
    · obtain ⟨x, hx⟩ : ∃ x, Hid (x = ts[k]'hlt) := ⟨ts[k]'hlt, rfl⟩
      obtain ⟨blk, o, hA, hbk, hc⟩ := h0.at (c := 4) (fun _ => rfl) (by decide) k hlt
      rw [← hx.out] at hc
      subst hA
      have hcell : ∀ W, Fr w.heap.size [] w W → W.cell? ⟨blk, o + k * 4, none⟩ = some (.int .i64 x.kind) ∧ W.cell? ⟨blk, o + k * 4 + 1, none⟩ = some (.int .i64 x.least) ∧ W.cell? ⟨blk, o + k * 4 + 2, none⟩ = some (.int .u64 (x.n : Int)) ∧ W.cell? ⟨blk, o + k * 4 + 3, none⟩ = some (.string x.s) := fun W hW => by
        refine ⟨(hW.cell (p := ⟨blk, _, none⟩) hbk (by simp)).trans (hc 0 _ rfl), (hW.cell (p := ⟨blk, _, none⟩) hbk (by simp)).trans (hc 1 _ rfl), (hW.cell (p := ⟨blk, _, none⟩) hbk (by simp)).trans (hc 2 _ rfl), (hW.cell (p := ⟨blk, _, none⟩) hbk (by simp)).trans (hc 3 _ rfl)⟩
      obtain ⟨d0, d1, d2, d3⟩ := hcell wr hF
      have hxn : x.n < 18446744073709551616 := by rw [hx.out]; exact htn _ (List.getElem_mem _)
      have hxs : x.s.size ≤ 100000000 := by rw [hx.out]; exact hs0 _ (List.getElem_mem _)
      have hle := flat_le thB ts k hlt
      rw [← hx.out] at hle
      obtain ⟨PL, hPL⟩ : ∃ PL, Hid (PL = (ts.take k).flatMap thB) := ⟨_, rfl⟩
      rw [← hPL.out] at hB hle ⊢
      obtain ⟨PS, hPS⟩ : ∃ PS, Hid (PS = mkS PL) := ⟨_, rfl⟩
      obtain ⟨XS, hXS⟩ : ∃ XS, Hid (XS = mkS (thB x)) := ⟨_, rfl⟩
      have hps : PS.size ≤ 100000000 := by rw [hPS.out, mkS_size]; omega
      have hxs2 : XS.size ≤ 100000000 := by rw [hXS.out, mkS_size]; omega
      have hby := fun W => rBytes_any W x hxn (by omega)
      rw [← hXS.out] at hby
      rw [← hPS.out]
      have hki : (k : Int) < ts.length := by omega
      go_wp2_with (first
        | (go_at_call 10; (refine (hby w2).mono ?_); rintro e w3 ⟨rfl, f3⟩)
        | (go_at_call 9; (refine (lay_any wr _ PL x hB hxn (by omega)).mono ?_); rintro e w2 ⟨rfl, hB2, f2⟩; have hF2 := WFr.fr hF f2 hsz; obtain ⟨d0', d1', d2', d3'⟩ := hcell w2 hF2))
      go_roundw
      case rel =>
        refine ⟨k + 1, by omega, by go_num, ?_, ?_, hF2.trans (f3.mono hF2.size (by simp))⟩
        · rw [hPS.out, hXS.out, mkS_app, flatMap_take thB ts k hlt, ← hx.out, ← hPL.out]
        · rw [flatMap_take thB ts k hlt, ← hx.out, ← hPL.out]
          exact hB2.fr f3 (Nat.le_refl _) (by simp)
      case measure => simp [intOf]; omega
    · have hkn : k = ts.length := by omega
      rw [hkn, List.take_length] at hB ⊢
      have hki : ¬ ((k : Int) < ts.length) := by omega
      subst hkn
      obtain ⟨L0, hL0⟩ : ∃ L0, Hid (L0 = ts.flatMap thB) := ⟨_, rfl⟩
      rw [← hL0.out] at hB hb0 ⊢
      have hbw := hB.lt
      have hrow1 : Row wr w1.heap.size A1 (ns.map fun n : Nat => Value.int .u64 (n : Int)) := (h1.fr hF (Nat.le_refl _) (by simp)).row hsz
      go_wp2_with (first
        | (go_at_call 12; (refine (wText_any _ _ A2 c2 w2 ss hB2 ((h2.fr hF2 (Nat.le_refl _) (by simp)).row hsz) (fun _ _ => Nat.le_refl _) (by omega) (by rw [List.length_append]; omega)).mono ?_); rintro e w3 ⟨rfl, hB3, f3⟩; have hF3 := WFr.fr hF2 f3 hsz)
        | (go_at_call 11; (refine (wNum_any _ L0 A1 c1 wr ns hB hrow1 hnn (by omega) (by omega)).mono ?_); rintro e w2 ⟨rfl, hB2, f2⟩; have hF2 := WFr.fr hF f2 hsz))
      obtain ⟨L2, hL2⟩ : ∃ L2, Hid (L2 = L0 ++ ns.flatMap numB ++ ss.flatMap fun s : ByteArray => textB s.data.toList) := ⟨_, rfl⟩
      rw [← hL2.out] at hB3
      clear hB hB2
      go_loopw [9, 12] (fun want i wr => ∃ k : Nat, k ≤ ns.length ∧ i = .int .i64 (k : Int) ∧ want = .string (mkS (L0 ++ (ns.take k).flatMap numB)) ∧ Bld 32 w1.heap.size L2 wr ∧ Fr w.heap.size [] w wr) (fun _ i _ => ns.length - (intOf i).toNat)
      case atStart => exact ⟨0, by omega, rfl, by simp, hB3, hF3⟩
      case round =>
        clear hB3 hF3 hF
        obtain ⟨k, hk, rfl, rfl, hB, hF⟩ := hrel
        by_cases hlt : k < ns.length
        · obtain ⟨x, hx⟩ : ∃ x, Hid (x = ns[k]'hlt) := ⟨ns[k]'hlt, rfl⟩
          obtain ⟨blk, o, hA, hbk, hc⟩ := h1.at (c := 1) (fun _ => rfl) (by decide) k hlt
          rw [← hx.out] at hc
          subst hA
          have d0 := (hF.cell (p := ⟨blk, o + k * 1, none⟩) hbk (by simp)).trans (hc 0 _ rfl)
          rw [Nat.mul_one] at d0
          have hxn : x < 18446744073709551616 := by rw [hx.out]; exact hnn _ (List.getElem_mem _)
          have hle := flat_le numB ns k hlt
          rw [← hx.out] at hle
          obtain ⟨PS, hPS⟩ : ∃ PS, Hid (PS = mkS (L0 ++ (ns.take k).flatMap numB)) := ⟨_, rfl⟩
          obtain ⟨XS, hXS⟩ : ∃ XS, Hid (XS = mkS (numB x)) := ⟨_, rfl⟩
          have hps : PS.size ≤ 200000000 := by rw [hPS.out, mkS_size, List.length_append]; omega
          have hxs2 : XS.size ≤ 100000000 := by rw [hXS.out, mkS_size]; omega
          have hby : ∀ W, Calls Try.prog 13 #[.int .u64 x] W fun e w' => e = .returned (.string XS) ∧ Fr W.heap.size [] W w' := fun W => by rw [hXS.out]; exact rNum_any W x hxn
          rw [← hPS.out]
          have hki : (k : Int) < ns.length := by omega
          go_wp2_with (go_at_call 13; (refine (hby wr).mono ?_); rintro e w3 ⟨rfl, f3⟩)
          go_roundw
          case rel =>
            refine ⟨k + 1, by omega, by go_num, ?_, hB.fr f3 (Nat.le_refl _) (by simp), hF.trans (f3.mono hF.size (by simp))⟩
            rw [hPS.out, hXS.out, mkS_app, flatMap_take numB ns k hlt, ← hx.out, List.append_assoc]
          case measure => simp [intOf]; omega
        · have hkn : k = ns.length := by omega
          rw [hkn, List.take_length]
          have hki : ¬ ((k : Int) < ns.length) := by omega
          subst hkn
          obtain ⟨L1, hL1⟩ : ∃ L1, Hid (L1 = L0 ++ ns.flatMap numB) := ⟨_, rfl⟩
          have hl1l : L1.length ≤ 200000000 := by rw [hL1.out, List.length_append]; omega
          rw [← hL1.out]
          go_wp2
          go_loopw [9, 13] (fun want i wr => ∃ k : Nat, k ≤ ss.length ∧ i = .int .i64 (k : Int) ∧ want = .string (mkS (L1 ++ (ss.take k).flatMap fun s : ByteArray => textB s.data.toList)) ∧ Bld 32 w1.heap.size L2 wr ∧ Fr w.heap.size [] w wr) (fun _ i _ => ss.length - (intOf i).toNat)
          case atStart => exact ⟨0, by omega, rfl, by simp, hB, hF⟩
          case round =>
            clear hB hF
            obtain ⟨k, hk, rfl, rfl, hB, hF⟩ := hrel
            by_cases hlt : k < ss.length
            · obtain ⟨x, hx⟩ : ∃ x, Hid (x = ss[k]'hlt) := ⟨ss[k]'hlt, rfl⟩
              obtain ⟨blk, o, hA, hbk, hc⟩ := h2.at (c := 1) (fun _ => rfl) (by decide) k hlt
              rw [← hx.out] at hc
              subst hA
              have d0 := (hF.cell (p := ⟨blk, o + k * 1, none⟩) hbk (by simp)).trans (hc 0 _ rfl)
              rw [Nat.mul_one] at d0
              have hxn : x.size ≤ 100000000 := by rw [hx.out]; exact hs2 _ (List.getElem_mem _)
              have hle := flat_le (fun s : ByteArray => textB s.data.toList) ss k hlt
              simp only [← hx.out] at hle
              obtain ⟨PS, hPS⟩ : ∃ PS, Hid (PS = mkS (L1 ++ (ss.take k).flatMap fun s : ByteArray => textB s.data.toList)) := ⟨_, rfl⟩
              obtain ⟨XS, hXS⟩ : ∃ XS, Hid (XS = mkS (textB x.data.toList)) := ⟨_, rfl⟩
              have hps : PS.size ≤ 300000000 := by rw [hPS.out, mkS_size, List.length_append]; omega
              have hxs2 : XS.size ≤ 100000000 := by rw [hXS.out, mkS_size]; omega
              have hby : ∀ W, Calls Try.prog 14 #[.string x] W fun e w' => e = .returned (.string XS) ∧ Fr W.heap.size [] W w' := fun W => by rw [hXS.out]; exact rText_any W x (by omega)
              rw [← hPS.out]
              have hki : (k : Int) < ss.length := by omega
              go_wp2_with (go_at_call 14; (refine (hby wr).mono ?_); rintro e w3 ⟨rfl, f3⟩)
              go_roundw
              case rel =>
                refine ⟨k + 1, by omega, by go_num, ?_, hB.fr f3 (Nat.le_refl _) (by simp), hF.trans (f3.mono hF.size (by simp))⟩
                rw [hPS.out, hXS.out, mkS_app, flatMap_take _ ss k hlt, ← hx.out, List.append_assoc]
              case measure => simp [intOf]; omega
            · have hkn : k = ss.length := by omega
              rw [hkn, List.take_length]
              have hki : ¬ ((k : Int) < ss.length) := by omega
              subst hkn
              rw [show L1 ++ (ss.flatMap fun s : ByteArray => textB s.data.toList) = L2 by rw [hL1.out, hL2.out]]
              obtain ⟨SB, hSB⟩ : ∃ SB, Hid (SB = mkS L2) := ⟨_, rfl⟩
              have hby : ∀ W, Bld 32 w1.heap.size L2 W → Calls Try.prog 15 #[.pointer (some ⟨w1.heap.size, 0, none⟩)] W fun e w' => e = .returned (.string SB) ∧ Bld 32 w1.heap.size L2 w' ∧ WFr w1.heap.size W w' := fun W h => by rw [hSB.out]; exact wBytes_any _ L2 W h
              rw [← hSB.out]
              have hptr := fun W => run_eql_ptr (P := Try.prog) W ⟨w1.heap.size, 0, none⟩ Try.underlying26 hji
              go_wp2_with (go_at_call 15; (refine (hby wr hB).mono ?_); rintro e w3 ⟨rfl, h3, f3⟩)
              go_ret
              exact ⟨rfl, WFr.fr hF f3 hsz⟩
end Go.Proofs.Ytpcbkkccaahdbaa
