/- The law: a clock becomes bytes and a text, and is read again. -/
import Derived.Test.YtaglginhaofgeaaClkPlain
import Derived.Test.YtaglginhaofgeaaClkRefB
import Derived.Test.YtaglginhaofgeaaClkActors
namespace Go.Proofs.Ytaglginhaofgeaa
open Go.RowKit Go.Shelf
open Ck Pk
theorem read_put (w : World) (l : List UInt8) (N : List Dot) (hN : Right N) (hl : N.length ≤ 10000000) (h : l = clkB N) (hlen : l.length ≤ 1000000000) :
    Calls Try.prog 16 #[.string (mkS l)] w fun e w' => (∃ v, e = .returned (.tuple #[v, .int .i64 0]) ∧ w'.ownsRow w.heap.size 27 2 v N.length (N.flatMap Dot.cells)) ∧ Fr w.heap.size [] w w' := by
  have := readC_any w l hlen
  rw [h, readC_put hN (by omega)] at this
  rw [h]
  exact this
theorem parse_put (w : World) (t : ByteArray) (N : List Dot) (hN : Right N) (hl : N.length ≤ 10000000) (h : t = mkS (hexB (clkB N))) (hlen : t.size ≤ 1000000000) :
    Calls Try.prog 18 #[.string t] w fun e w' => (∃ v, e = .returned (.tuple #[v, .int .i64 0]) ∧ w'.ownsRow w.heap.size 27 2 v N.length (N.flatMap Dot.cells)) ∧ Fr w.heap.size [] w w' := by
  have := parseC_any w t hlen
  rw [show t.data.toList = hexB (clkB N) by rw [h]; exact mkS_list _, parseC_put, readC_put hN (by omega)] at this
  exact this
theorem actorN_bounds (a b c : Int) : 0 ≤ actorN a b c ∧ actorN a b c < 18446744073709551616 := by unfold actorN; omega
theorem actorN_parts (a b c : Int) : actorN a b c / 281474976710656 = a % 65536 ∧ actorN a b c / 4294967296 % 65536 = b % 65536 ∧ actorN a b c % 4294967296 = c % 4294967296 := by unfold actorN; omega
theorem clkB_len2 {N : List Dot} (h : N.length ≤ 2000000) (hok : ∀ d ∈ N, d.ok) : (clkB N).length ≤ 50000000 := by
  have h1 := dotsB_len (N.attach.map fun d => (⟨d.1, hok d.1 d.2⟩ : { d : Dot // d.ok }))
  have h2 := numB_len10 (n := N.length) (by omega)
  have h3 : (N.attach.map fun d => (⟨d.1, hok d.1 d.2⟩ : { d : Dot // d.ok })).flatMap (fun x => dotB x.1) = N.flatMap dotB := by
    rw [List.flatMap_map]
    show N.attach.flatMap (fun x => dotB x.1) = _
    rw [← List.flatMap_map (f := Subtype.val) (g := dotB), List.attach_map_subtype_val]
  rw [h3, List.length_map, List.length_attach] at h1
  unfold clkB
  rw [List.length_append]
  omega
set_option maxHeartbeats 8000000 in
set_option maxRecDepth 100000 in
theorem bytes_law (w : World) (v : Value) (ds : List Dot) (n0 n1 n2 : Int) (hv : ClkIn w v ds) (hl : ds.length ≤ 1048576) (ok : ∀ d ∈ ds, d.ok) :
    Calls Try.prog 9 #[v, .agg #[.int .i64 n0, .int .i64 n1, .int .i64 n2]] w fun e w' => e = .returned (.bool true) ∧ Fr w.heap.size [] w w' := by
  have hR := right_norm ok
  have hNl := normL_len ds
  have hB2 := clkB_len2 (N := normL ds) (by omega) hR.ok
  obtain ⟨A1, c1, rfl, _⟩ := id hv
  have cB := fun W (h : ClkIn W (.slice A1 ds.length c1) ds) => bytes_any W _ ds (normL ds) (by omega) ok h (canon_norm ds)
  have cT := fun W (h : ClkIn W (.slice A1 ds.length c1) ds) => text_any W _ ds (normL ds) (by omega) ok h (canon_norm ds) hNl
  have cN := fun W (h : ClkIn W (.slice A1 ds.length c1) ds) => rNorm_any W _ ds (by omega) h
  have rB := fun W (h : ClkIn W (.slice A1 ds.length c1) ds) => rBytes_any W _ ds (by omega) ok h
  have rT := fun W (h : ClkIn W (.slice A1 ds.length c1) ds) => rText_is W _ ds (by omega) ok h
  obtain ⟨N, hN⟩ : ∃ N, normL ds = N := ⟨_, rfl⟩
  rw [hN] at hR hNl hB2
  simp only [hN] at cB cT cN rB rT
  obtain ⟨S, hS⟩ : ∃ S : ByteArray, Hid (⟨(clkB N).toArray⟩ = S) := ⟨_, Lib.hid rfl⟩
  obtain ⟨T, hT⟩ : ∃ T : ByteArray, Hid (⟨(hexB (clkB N)).toArray⟩ = T) := ⟨_, Lib.hid rfl⟩
  simp only [hS.out] at cB rB
  simp only [hT.out] at cT rT
  have cR := fun W => read_put W (clkB N) N hR (by omega) rfl (by omega)
  rw [show mkS (clkB N) = S from hS.out] at cR
  have hTs : T.size ≤ 1000000000 := by rw [← hT.out]; show (mkS _).size ≤ _; rw [mkS_size, hexB_len]; omega
  have cP := fun W => parse_put W T N hR (by omega) hT.out.symm hTs
  have hb := actorN_bounds n0 n1 n2
  have hp := actorN_parts n0 n1 n2
  have cA := fun W => (actor_any W n0 n1 n2).mono fun _ _ (h : _ ∧ _) => (⟨h.1, h.2.symm⟩ : _ ∧ _)
  have rA := fun W => (rActor_any W n0 n1 n2).mono fun _ _ (h : _ ∧ _) => (⟨h.1, h.2.symm⟩ : _ ∧ _)
  have cQ := fun W => (parts_any W (actorN n0 n1 n2) hb.1 hb.2).mono fun _ _ (h : _ ∧ _) => (⟨h.1, h.2.symm⟩ : _ ∧ _)
  rw [hp.1, hp.2.1, hp.2.2] at cQ
  generalize actorN n0 n1 n2 = X at cA rA cQ
  have m1 := and16 n0
  have m2 := and16 n1
  have m3 := and32 n2
  have hlN : N.length ≤ 8796093022208 := by omega
  clear hb hp hN hNl hB2 hTs
  obtain ⟨W2, hW2⟩ : ∃ W2, w.alloc (.cells #[.int .i64 n0, .int .i64 n1, .int .i64 n2] 47) = W2 := ⟨_, rfl⟩
  have hI : Has W2 w.heap.size 47 [.int .i64 n0, .int .i64 n1, .int .i64 n2] := by rw [← hW2]; exact Has.new w _ _
  have hF2 : Fr w.heap.size [] w W2 := by rw [← hW2]; exact (Fr.refl _ _ _).alloc (Nat.le_refl _) _
  go_enter Try.func9, Try.ntmps9
  go_upto_region 1 with (fail)
  clear hW2
  have hv2 := clkIn_fr hv hF2
  go_upto_region 2 with (go_at_call 10; (refine (awake06_any W2).mono ?_); rintro e w1 ⟨rfl, f1⟩)
  have k1 := clkIn_fr hv2 f1
  go_upto_region 6 with (first
    | (go_at_call 18; (with_reducible refine (cP w4).mono ?_); rintro e w5 ⟨⟨v5, rfl, g5⟩, f5⟩)
    | (go_at_call 16; (with_reducible refine (cR w3).mono ?_); rintro e w4 ⟨⟨v4, rfl, g4⟩, f4⟩)
    | (go_at_call 21; (with_reducible refine (cT w2 (clkIn_fr k1 f2)).mono ?_); rintro e w3 ⟨rfl, f3⟩)
    | (go_at_call 20; (with_reducible refine (cB w1 k1).mono ?_); rintro e w2 ⟨rfl, f2⟩))
  have hF5 : Fr w.heap.size [] w w5 := by
    have z1 := hF2.trans (f1.mono hF2.size (by simp))
    have z2 := z1.trans (f2.mono z1.size (by simp))
    have z3 := z2.trans (f3.mono z2.size (by simp))
    have z4 := z3.trans (f4.mono z3.size (by simp))
    exact z4.trans (f5.mono z4.size (by simp))
  have hI5 : Has w5 w.heap.size 47 [.int .i64 n0, .int .i64 n1, .int .i64 n2] := by
    have z1 := hI.fr f1 hI.lt (by simp)
    have z2 := z1.fr f2 z1.lt (by simp)
    have z3 := z2.fr f3 z2.lt (by simp)
    have z4 := z3.fr f4 z3.lt (by simp)
    exact z4.fr f5 z4.lt (by simp)
  have k5 := clkIn_fr hv hF5
  have q4 := clkIn_fr (clkIn_own g4) f5
  have q5 := clkIn_own g5
  clear hv hv2 hI hF2 f1 f2 f3 f4 f5 g4 g5 k1 cR cP cB cT
  have i0 : w5.cell? ⟨w.heap.size, 0, none⟩ = some (.int .i64 n0) := hI5.cell 0
  have i1 : w5.cell? ⟨w.heap.size, 1, none⟩ = some (.int .i64 n1) := hI5.cell 1
  have i2 : w5.cell? ⟨w.heap.size, 2, none⟩ = some (.int .i64 n2) := hI5.cell 2
  go_upto_region 8 with (first
    | (go_at_call 34; (with_reducible refine (cQ w5).mono ?_); rintro e w6 ⟨rfl, rfl⟩)
    | (go_at_call 33; (with_reducible refine (cA w5).mono ?_); rintro e w6 ⟨rfl, rfl⟩))
  go_upto_region 10 with (first
    | (go_at_call 11; (with_reducible refine (sameC_any w7 _ _ N N rfl hlN (clkIn_fr (clkIn_fr q4 f6) f7) (clkIn_fr (clkIn_fr q5 f6) f7)).mono ?_); rintro e w8 ⟨rfl, f8⟩)
    | (go_at_call 11; (with_reducible refine (sameC_any w6 _ _ N N rfl hlN (clkIn_fr q4 f6) (clkIn_own g6)).mono ?_); rintro e w7 ⟨rfl, f7⟩)
    | (go_at_call 25; (with_reducible refine (cN w5 k5).mono ?_); rintro e w6 ⟨⟨v6, rfl, g6⟩, f6⟩))
  have hf8 : Fr w5.heap.size [] w5 w8 := (f6.trans (f7.mono f6.size (by simp))).trans (f8.mono (Nat.le_trans f6.size f7.size) (by simp))
  have hF8 := hF5.trans (hf8.mono hF5.size (by simp))
  have hI8 := hI5.fr hf8 hI5.lt (by simp)
  have k8 := clkIn_fr k5 hf8
  clear i0 i1 i2 hI5 hF5 k5 q4 q5 f6 f7 f8 hf8 g6
  have i0 : w8.cell? ⟨w.heap.size, 0, none⟩ = some (.int .i64 n0) := hI8.cell 0
  have i1 : w8.cell? ⟨w.heap.size, 1, none⟩ = some (.int .i64 n1) := hI8.cell 1
  have i2 : w8.cell? ⟨w.heap.size, 2, none⟩ = some (.int .i64 n2) := hI8.cell 2
  go_wp2_with (first
    | (go_at_call 37; (with_reducible refine (rA w10).mono ?_); rintro e w11 ⟨rfl, rfl⟩)
    | (go_at_call 36; (with_reducible refine (rT w9 (clkIn_fr k8 f9)).mono ?_); rintro e w10 ⟨rfl, f10⟩; have hI10 := (hI8.fr f9 hI8.lt (by simp)).fr f10 (Nat.lt_of_lt_of_le hI8.lt f9.size) (by simp); have j0 : w10.cell? ⟨w.heap.size, 0, none⟩ = some (.int .i64 n0) := hI10.cell 0; have j1 : w10.cell? ⟨w.heap.size, 1, none⟩ = some (.int .i64 n1) := hI10.cell 1; have j2 : w10.cell? ⟨w.heap.size, 2, none⟩ = some (.int .i64 n2) := hI10.cell 2)
    | (go_at_call 35; (with_reducible refine (rB w8 k8).mono ?_); rintro e w9 ⟨rfl, f9⟩))
  go_ret
  have hF9 := hF8.trans (f9.mono hF8.size (by simp))
  exact ⟨rfl, hF9.trans (f10.mono hF9.size (by simp))⟩
end Go.Proofs.Ytaglginhaofgeaa
