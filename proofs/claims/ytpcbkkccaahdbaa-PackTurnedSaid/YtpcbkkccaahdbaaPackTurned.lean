/- PackTurned answers true, whatever the body and the place. -/
import Derived.Test.YtpcbkkccaahdbaaPackPlain
import Derived.Test.YtpcbkkccaahdbaaClass
import Derived.Deep.RegionWith
namespace Go.Proofs.Ytpcbkkccaahdbaa
open Go.RowKit
open Pk
theorem run_one (w : World) (g : Nat) (y : UInt8) (S : ByteArray) (hS : S = mkS [y]) (h : Has w g 5 [.int .u8 (y.toNat : Int)]) : (convert 28 9 (.slice (some ⟨g, 0, none⟩) 1 1)).run Try.prog w = .ok (.string S) w := by
  have h := run_convert_bytes_arg (P := Try.prog) w 28 5 Try.underlying28 Try.underlying5 g 0 1 1 [(y.toNat : Int)] rfl (fun i hi => by
      rw [h.cell]
      match i, hi with
      | 0, _ => rfl) 9 Try.underlying9
  rw [h, hS]
  congr 2
  exact strOf_bytes [y]
theorem big_law (w : World) (S : ByteArray) (at_ by_ : Int) (hs : 65536 < S.size) :
    Calls Try.prog 5 #[.string S, .int .i64 at_, .int .u8 by_] w fun e w' => e = .returned (.bool true) ∧ Fr w.heap.size [] w w' := by
  go_enter Try.func5, Try.ntmps5
  go_wp2_with (first
    | (go_at_call 19; (refine (frame_big w1 S hs).mono ?_); rintro e w2 ⟨rfl, rfl⟩)
    | (go_at_call 8; (refine (awake02_any w).mono ?_); rintro e w1 ⟨rfl, f1⟩))
  go_ret
  exact ⟨rfl, f1⟩
set_option maxHeartbeats 4000000 in
set_option maxRecDepth 100000 in
theorem turned_00 (w : World) (l F : List UInt8)  (k0 n1 j m K : Nat) (x y : UInt8) (SF S1 S2 S3 S4 S5 : ByteArray) (hl : l.length ≤ 65536) (hk0 : k0 < 9223372036854775808)
    (hF : F = frameB l) (hFl : SF.size = n1 + l.length + 4) (hn1 : 1 ≤ n1) (hn1b : n1 ≤ 10) (hSF : SF = mkS F)
    (hm : m = k0 % (n1 + l.length + 4)) (hS1 : SF.extract 0 m = S1) (hu1 : ∀ W, Calls Try.prog 20 #[.string S1] W fun r w' => (∃ a b, r = .returned (.tuple #[.string a, .int .i64 b, .int .i64 10])) ∧ Fr W.heap.size [] W w')
    (hj : j = k0 % (l.length + 4)) (hK : K = n1 + j) (hx : ∀ h : K < SF.size, (SF[K]'h).toNat = x.toNat)
    (hb2 : bits .xor .u8 (x.toNat : Int) 1 = y.toNat)
    (hS2 : SF.extract 0 K = S2) (hS3 : S3 = mkS [y]) (hS4 : SF.extract (K + 1) SF.size = S4) (hS5 : S2 ++ S3 ++ S4 = S5)
    (hu5 : ∀ W, Calls Try.prog 20 #[.string S5] W fun r w' => (∃ a b, r = .returned (.tuple #[.string a, .int .i64 b, .int .i64 13])) ∧ Fr W.heap.size [] W w') :
    Calls Try.prog 5 #[.string (mkS l), .int .i64 (k0), .int .u8 (0)] w fun e w' => e = .returned (.bool true) ∧ Fr w.heap.size [] w w' := by
  have hms : (mkS l).size = l.length := mkS_size l
  have hfr := fun W => frame_ok W (mkS l) (by rw [hms]; exact hl)
  simp only [mkS_list, ← hF, ← hSF] at hfr
  have hjl : j < l.length + 4 := by rw [hj]; exact Nat.mod_lt _ (by omega)
  have hml : m < n1 + l.length + 4 := by rw [hm]; exact Nat.mod_lt _ (by omega)
  have hKl : K < n1 + l.length + 4 := by omega
  obtain ⟨fl, hfl⟩ : ∃ fl, Hid (fl = n1 + l.length + 4) := ⟨_, rfl⟩
  rw [← hfl.out] at hFl hml hKl
  rw [hFl] at hS4
  have hfo := hfl.out
  have hmod1 : (k0 : Int) % (fl : Int) = (m : Int) := by rw [hm, ← hfo]; simp
  have hhead : (fl : Int) - (l.length : Int) - 4 = (n1 : Int) := by omega
  have hmod2 : (k0 : Int) % ((l.length : Int) + 4) = (j : Int) := by rw [show (l.length : Int) + 4 = ((l.length + 4 : Nat) : Int) by omega, hj]; exact (Int.natCast_emod _ _).symm
  have hKi : (n1 : Int) + (j : Int) = (K : Int) := by omega
  have hf5 : ¬ ((fl : Int) < (l.length : Int) + 5) := by omega
  have b1 : (0 : Int) ≤ (K : Int) := by omega
  have b2 : (K : Int) < (fl : Int) := by omega
  have b3 : (K : Int) + 1 ≤ (fl : Int) := by omega
  have b4 : (m : Int) ≤ (fl : Int) := by omega
  have b5 : (0 : Int) ≤ (k0 : Int) := by omega
  have b6 : (0 : Int) < (fl : Int) := by omega
  have b7 : (fl : Int) ≤ 100000 := by omega
  have b8 : (l.length : Int) ≤ 65536 := by omega
  have b9 : (j : Int) < (l.length : Int) + 4 := by omega
  have b10 : (n1 : Int) ≤ 10 := by omega
  have hone := fun W : World => run_one _ _ y S3 hS3 (Has.new W 5 [.int .u8 (y.toNat : Int)]).drew
  have c1 : (0 : Int) ≤ (K : Int) + 1 := by omega
  have c2 : ((K : Int) + 1).toNat = K + 1 := by omega
  have c3 : IntKind.i64.wrap ((K : Int) + 1) = (K : Int) + 1 := by rw [IntKind.wrap_i64]; omega
  have z2 : S2.size ≤ 100000 := by rw [← hS2, ByteArray.size_extract]; omega
  have z3 : S3.size ≤ 1 := by rw [hS3]; exact Nat.le_refl _
  have z4 : S4.size ≤ 100000 := by rw [← hS4, ByteArray.size_extract]; omega
  have z5 : (S2 ++ S3).size ≤ 200000 := by rw [ByteArray.size_append]; omega
  have HF := Lib.hid hF
  have HSF := Lib.hid hSF
  have HS3 := Lib.hid hS3
  clear hF hSF hS3 hm hj hK hfo hn1 hjl hml hKl hl hn1b
  go_enter Try.func5, Try.ntmps5
  go_wp2_with (first
      | (go_at_call 20; (refine (hu1 w3).mono ?_); rintro e w4 ⟨⟨a1, b1', rfl⟩, f4⟩)
      | (go_at_call 19; (refine (hfr w1).mono ?_); rintro e w3 ⟨rfl, f3⟩)
      | (go_at_call 8; (refine (awake02_any w).mono ?_); rintro e w1 ⟨rfl, f1⟩))
  have g4 := ((f1.trans (f3.mono f1.size (by simp))).trans (f4.mono (Nat.le_trans f1.size f3.size) (by simp))).alloc (Nat.le_trans (Nat.le_trans f1.size f3.size) f4.size) (.cells #[.int .u8 (y.toNat : Int)] 5)
  go_region_with (go_at_call 20; (with_reducible refine (hu5 _).mono ?_); rintro e w6 ⟨⟨a2, b2', rfl⟩, f6⟩)
  all_goals
    go_wp2
    go_ret
    exact ⟨rfl, g4.drew.trans (f6.mono g4.size (by simp))⟩
set_option maxHeartbeats 4000000 in
set_option maxRecDepth 100000 in
theorem turned_01 (w : World) (l F : List UInt8) (by_ : Int) (k0 n1 j m K : Nat) (x y : UInt8) (SF S1 S2 S3 S4 S5 : ByteArray) (hl : l.length ≤ 65536) (hk0 : k0 < 9223372036854775808)
    (hF : F = frameB l) (hFl : SF.size = n1 + l.length + 4) (hn1 : 1 ≤ n1) (hn1b : n1 ≤ 10) (hSF : SF = mkS F)
    (hm : m = k0 % (n1 + l.length + 4)) (hS1 : SF.extract 0 m = S1) (hu1 : ∀ W, Calls Try.prog 20 #[.string S1] W fun r w' => (∃ a b, r = .returned (.tuple #[.string a, .int .i64 b, .int .i64 10])) ∧ Fr W.heap.size [] W w')
    (hj : j = k0 % (l.length + 4)) (hK : K = n1 + j) (hx : ∀ h : K < SF.size, (SF[K]'h).toNat = x.toNat)
    (hb1 : (by_ == 0) = false) (hb2 : bits .xor .u8 (x.toNat : Int) by_ = y.toNat)
    (hS2 : SF.extract 0 K = S2) (hS3 : S3 = mkS [y]) (hS4 : SF.extract (K + 1) SF.size = S4) (hS5 : S2 ++ S3 ++ S4 = S5)
    (hu5 : ∀ W, Calls Try.prog 20 #[.string S5] W fun r w' => (∃ a b, r = .returned (.tuple #[.string a, .int .i64 b, .int .i64 13])) ∧ Fr W.heap.size [] W w') :
    Calls Try.prog 5 #[.string (mkS l), .int .i64 (k0), .int .u8 (by_)] w fun e w' => e = .returned (.bool true) ∧ Fr w.heap.size [] w w' := by
  have hms : (mkS l).size = l.length := mkS_size l
  have hfr := fun W => frame_ok W (mkS l) (by rw [hms]; exact hl)
  simp only [mkS_list, ← hF, ← hSF] at hfr
  have hjl : j < l.length + 4 := by rw [hj]; exact Nat.mod_lt _ (by omega)
  have hml : m < n1 + l.length + 4 := by rw [hm]; exact Nat.mod_lt _ (by omega)
  have hKl : K < n1 + l.length + 4 := by omega
  obtain ⟨fl, hfl⟩ : ∃ fl, Hid (fl = n1 + l.length + 4) := ⟨_, rfl⟩
  rw [← hfl.out] at hFl hml hKl
  rw [hFl] at hS4
  have hfo := hfl.out
  have hmod1 : (k0 : Int) % (fl : Int) = (m : Int) := by rw [hm, ← hfo]; simp
  have hhead : (fl : Int) - (l.length : Int) - 4 = (n1 : Int) := by omega
  have hmod2 : (k0 : Int) % ((l.length : Int) + 4) = (j : Int) := by rw [show (l.length : Int) + 4 = ((l.length + 4 : Nat) : Int) by omega, hj]; exact (Int.natCast_emod _ _).symm
  have hKi : (n1 : Int) + (j : Int) = (K : Int) := by omega
  have hf5 : ¬ ((fl : Int) < (l.length : Int) + 5) := by omega
  have b1 : (0 : Int) ≤ (K : Int) := by omega
  have b2 : (K : Int) < (fl : Int) := by omega
  have b3 : (K : Int) + 1 ≤ (fl : Int) := by omega
  have b4 : (m : Int) ≤ (fl : Int) := by omega
  have b5 : (0 : Int) ≤ (k0 : Int) := by omega
  have b6 : (0 : Int) < (fl : Int) := by omega
  have b7 : (fl : Int) ≤ 100000 := by omega
  have b8 : (l.length : Int) ≤ 65536 := by omega
  have b9 : (j : Int) < (l.length : Int) + 4 := by omega
  have b10 : (n1 : Int) ≤ 10 := by omega
  have hone := fun W : World => run_one _ _ y S3 hS3 (Has.new W 5 [.int .u8 (y.toNat : Int)]).drew
  have c1 : (0 : Int) ≤ (K : Int) + 1 := by omega
  have c2 : ((K : Int) + 1).toNat = K + 1 := by omega
  have c3 : IntKind.i64.wrap ((K : Int) + 1) = (K : Int) + 1 := by rw [IntKind.wrap_i64]; omega
  have z2 : S2.size ≤ 100000 := by rw [← hS2, ByteArray.size_extract]; omega
  have z3 : S3.size ≤ 1 := by rw [hS3]; exact Nat.le_refl _
  have z4 : S4.size ≤ 100000 := by rw [← hS4, ByteArray.size_extract]; omega
  have z5 : (S2 ++ S3).size ≤ 200000 := by rw [ByteArray.size_append]; omega
  have HF := Lib.hid hF
  have HSF := Lib.hid hSF
  have HS3 := Lib.hid hS3
  clear hF hSF hS3 hm hj hK hfo hn1 hjl hml hKl hl hn1b
  go_enter Try.func5, Try.ntmps5
  go_wp2_with (first
      | (go_at_call 20; (refine (hu1 w3).mono ?_); rintro e w4 ⟨⟨a1, b1', rfl⟩, f4⟩)
      | (go_at_call 19; (refine (hfr w1).mono ?_); rintro e w3 ⟨rfl, f3⟩)
      | (go_at_call 8; (refine (awake02_any w).mono ?_); rintro e w1 ⟨rfl, f1⟩))
  have g4 := ((f1.trans (f3.mono f1.size (by simp))).trans (f4.mono (Nat.le_trans f1.size f3.size) (by simp))).alloc (Nat.le_trans (Nat.le_trans f1.size f3.size) f4.size) (.cells #[.int .u8 (y.toNat : Int)] 5)
  go_region_with (go_at_call 20; (with_reducible refine (hu5 _).mono ?_); rintro e w6 ⟨⟨a2, b2', rfl⟩, f6⟩)
  all_goals
    go_wp2
    go_ret
    exact ⟨rfl, g4.drew.trans (f6.mono g4.size (by simp))⟩
set_option maxHeartbeats 4000000 in
set_option maxRecDepth 100000 in
theorem turned_10 (w : World) (l F : List UInt8) (at_ : Int) (k0 n1 j m K : Nat) (x y : UInt8) (SF S1 S2 S3 S4 S5 : ByteArray) (hl : l.length ≤ 65536) (ha1 : at_ < 0) (ha2 : -(at_ + 1) = (k0 : Int)) (hamin : -9223372036854775808 ≤ at_)
    (hF : F = frameB l) (hFl : SF.size = n1 + l.length + 4) (hn1 : 1 ≤ n1) (hn1b : n1 ≤ 10) (hSF : SF = mkS F)
    (hm : m = k0 % (n1 + l.length + 4)) (hS1 : SF.extract 0 m = S1) (hu1 : ∀ W, Calls Try.prog 20 #[.string S1] W fun r w' => (∃ a b, r = .returned (.tuple #[.string a, .int .i64 b, .int .i64 10])) ∧ Fr W.heap.size [] W w')
    (hj : j = k0 % (l.length + 4)) (hK : K = n1 + j) (hx : ∀ h : K < SF.size, (SF[K]'h).toNat = x.toNat)
    (hb2 : bits .xor .u8 (x.toNat : Int) 1 = y.toNat)
    (hS2 : SF.extract 0 K = S2) (hS3 : S3 = mkS [y]) (hS4 : SF.extract (K + 1) SF.size = S4) (hS5 : S2 ++ S3 ++ S4 = S5)
    (hu5 : ∀ W, Calls Try.prog 20 #[.string S5] W fun r w' => (∃ a b, r = .returned (.tuple #[.string a, .int .i64 b, .int .i64 13])) ∧ Fr W.heap.size [] W w') :
    Calls Try.prog 5 #[.string (mkS l), .int .i64 (at_), .int .u8 (0)] w fun e w' => e = .returned (.bool true) ∧ Fr w.heap.size [] w w' := by
  have hms : (mkS l).size = l.length := mkS_size l
  have hfr := fun W => frame_ok W (mkS l) (by rw [hms]; exact hl)
  simp only [mkS_list, ← hF, ← hSF] at hfr
  have hjl : j < l.length + 4 := by rw [hj]; exact Nat.mod_lt _ (by omega)
  have hml : m < n1 + l.length + 4 := by rw [hm]; exact Nat.mod_lt _ (by omega)
  have hKl : K < n1 + l.length + 4 := by omega
  obtain ⟨fl, hfl⟩ : ∃ fl, Hid (fl = n1 + l.length + 4) := ⟨_, rfl⟩
  rw [← hfl.out] at hFl hml hKl
  rw [hFl] at hS4
  have hfo := hfl.out
  have hmod1 : (k0 : Int) % (fl : Int) = (m : Int) := by rw [hm, ← hfo]; simp
  have hhead : (fl : Int) - (l.length : Int) - 4 = (n1 : Int) := by omega
  have hmod2 : (k0 : Int) % ((l.length : Int) + 4) = (j : Int) := by rw [show (l.length : Int) + 4 = ((l.length + 4 : Nat) : Int) by omega, hj]; exact (Int.natCast_emod _ _).symm
  have hKi : (n1 : Int) + (j : Int) = (K : Int) := by omega
  have hf5 : ¬ ((fl : Int) < (l.length : Int) + 5) := by omega
  have b1 : (0 : Int) ≤ (K : Int) := by omega
  have b2 : (K : Int) < (fl : Int) := by omega
  have b3 : (K : Int) + 1 ≤ (fl : Int) := by omega
  have b4 : (m : Int) ≤ (fl : Int) := by omega
  have b5 : (0 : Int) ≤ (k0 : Int) := by omega
  have b6 : (0 : Int) < (fl : Int) := by omega
  have b7 : (fl : Int) ≤ 100000 := by omega
  have b8 : (l.length : Int) ≤ 65536 := by omega
  have b9 : (j : Int) < (l.length : Int) + 4 := by omega
  have b10 : (n1 : Int) ≤ 10 := by omega
  have hone := fun W : World => run_one _ _ y S3 hS3 (Has.new W 5 [.int .u8 (y.toNat : Int)]).drew
  have c1 : (0 : Int) ≤ (K : Int) + 1 := by omega
  have c2 : ((K : Int) + 1).toNat = K + 1 := by omega
  have c3 : IntKind.i64.wrap ((K : Int) + 1) = (K : Int) + 1 := by rw [IntKind.wrap_i64]; omega
  have z2 : S2.size ≤ 100000 := by rw [← hS2, ByteArray.size_extract]; omega
  have z3 : S3.size ≤ 1 := by rw [hS3]; exact Nat.le_refl _
  have z4 : S4.size ≤ 100000 := by rw [← hS4, ByteArray.size_extract]; omega
  have z5 : (S2 ++ S3).size ≤ 200000 := by rw [ByteArray.size_append]; omega
  have HF := Lib.hid hF
  have HSF := Lib.hid hSF
  have HS3 := Lib.hid hS3
  clear hF hSF hS3 hm hj hK hfo hn1 hjl hml hKl hl hn1b
  go_enter Try.func5, Try.ntmps5
  go_wp2_with (first
      | (go_at_call 20; (refine (hu1 w3).mono ?_); rintro e w4 ⟨⟨a1, b1', rfl⟩, f4⟩)
      | (go_at_call 19; (refine (hfr w1).mono ?_); rintro e w3 ⟨rfl, f3⟩)
      | (go_at_call 8; (refine (awake02_any w).mono ?_); rintro e w1 ⟨rfl, f1⟩))
  have g4 := ((f1.trans (f3.mono f1.size (by simp))).trans (f4.mono (Nat.le_trans f1.size f3.size) (by simp))).alloc (Nat.le_trans (Nat.le_trans f1.size f3.size) f4.size) (.cells #[.int .u8 (y.toNat : Int)] 5)
  go_region_with (go_at_call 20; (with_reducible refine (hu5 _).mono ?_); rintro e w6 ⟨⟨a2, b2', rfl⟩, f6⟩)
  all_goals
    go_wp2
    go_ret
    exact ⟨rfl, g4.drew.trans (f6.mono g4.size (by simp))⟩
set_option maxHeartbeats 4000000 in
set_option maxRecDepth 100000 in
theorem turned_11 (w : World) (l F : List UInt8) (at_ by_ : Int) (k0 n1 j m K : Nat) (x y : UInt8) (SF S1 S2 S3 S4 S5 : ByteArray) (hl : l.length ≤ 65536) (ha1 : at_ < 0) (ha2 : -(at_ + 1) = (k0 : Int)) (hamin : -9223372036854775808 ≤ at_)
    (hF : F = frameB l) (hFl : SF.size = n1 + l.length + 4) (hn1 : 1 ≤ n1) (hn1b : n1 ≤ 10) (hSF : SF = mkS F)
    (hm : m = k0 % (n1 + l.length + 4)) (hS1 : SF.extract 0 m = S1) (hu1 : ∀ W, Calls Try.prog 20 #[.string S1] W fun r w' => (∃ a b, r = .returned (.tuple #[.string a, .int .i64 b, .int .i64 10])) ∧ Fr W.heap.size [] W w')
    (hj : j = k0 % (l.length + 4)) (hK : K = n1 + j) (hx : ∀ h : K < SF.size, (SF[K]'h).toNat = x.toNat)
    (hb1 : (by_ == 0) = false) (hb2 : bits .xor .u8 (x.toNat : Int) by_ = y.toNat)
    (hS2 : SF.extract 0 K = S2) (hS3 : S3 = mkS [y]) (hS4 : SF.extract (K + 1) SF.size = S4) (hS5 : S2 ++ S3 ++ S4 = S5)
    (hu5 : ∀ W, Calls Try.prog 20 #[.string S5] W fun r w' => (∃ a b, r = .returned (.tuple #[.string a, .int .i64 b, .int .i64 13])) ∧ Fr W.heap.size [] W w') :
    Calls Try.prog 5 #[.string (mkS l), .int .i64 (at_), .int .u8 (by_)] w fun e w' => e = .returned (.bool true) ∧ Fr w.heap.size [] w w' := by
  have hms : (mkS l).size = l.length := mkS_size l
  have hfr := fun W => frame_ok W (mkS l) (by rw [hms]; exact hl)
  simp only [mkS_list, ← hF, ← hSF] at hfr
  have hjl : j < l.length + 4 := by rw [hj]; exact Nat.mod_lt _ (by omega)
  have hml : m < n1 + l.length + 4 := by rw [hm]; exact Nat.mod_lt _ (by omega)
  have hKl : K < n1 + l.length + 4 := by omega
  obtain ⟨fl, hfl⟩ : ∃ fl, Hid (fl = n1 + l.length + 4) := ⟨_, rfl⟩
  rw [← hfl.out] at hFl hml hKl
  rw [hFl] at hS4
  have hfo := hfl.out
  have hmod1 : (k0 : Int) % (fl : Int) = (m : Int) := by rw [hm, ← hfo]; simp
  have hhead : (fl : Int) - (l.length : Int) - 4 = (n1 : Int) := by omega
  have hmod2 : (k0 : Int) % ((l.length : Int) + 4) = (j : Int) := by rw [show (l.length : Int) + 4 = ((l.length + 4 : Nat) : Int) by omega, hj]; exact (Int.natCast_emod _ _).symm
  have hKi : (n1 : Int) + (j : Int) = (K : Int) := by omega
  have hf5 : ¬ ((fl : Int) < (l.length : Int) + 5) := by omega
  have b1 : (0 : Int) ≤ (K : Int) := by omega
  have b2 : (K : Int) < (fl : Int) := by omega
  have b3 : (K : Int) + 1 ≤ (fl : Int) := by omega
  have b4 : (m : Int) ≤ (fl : Int) := by omega
  have b5 : (0 : Int) ≤ (k0 : Int) := by omega
  have b6 : (0 : Int) < (fl : Int) := by omega
  have b7 : (fl : Int) ≤ 100000 := by omega
  have b8 : (l.length : Int) ≤ 65536 := by omega
  have b9 : (j : Int) < (l.length : Int) + 4 := by omega
  have b10 : (n1 : Int) ≤ 10 := by omega
  have hone := fun W : World => run_one _ _ y S3 hS3 (Has.new W 5 [.int .u8 (y.toNat : Int)]).drew
  have c1 : (0 : Int) ≤ (K : Int) + 1 := by omega
  have c2 : ((K : Int) + 1).toNat = K + 1 := by omega
  have c3 : IntKind.i64.wrap ((K : Int) + 1) = (K : Int) + 1 := by rw [IntKind.wrap_i64]; omega
  have z2 : S2.size ≤ 100000 := by rw [← hS2, ByteArray.size_extract]; omega
  have z3 : S3.size ≤ 1 := by rw [hS3]; exact Nat.le_refl _
  have z4 : S4.size ≤ 100000 := by rw [← hS4, ByteArray.size_extract]; omega
  have z5 : (S2 ++ S3).size ≤ 200000 := by rw [ByteArray.size_append]; omega
  have HF := Lib.hid hF
  have HSF := Lib.hid hSF
  have HS3 := Lib.hid hS3
  clear hF hSF hS3 hm hj hK hfo hn1 hjl hml hKl hl hn1b
  go_enter Try.func5, Try.ntmps5
  go_wp2_with (first
      | (go_at_call 20; (refine (hu1 w3).mono ?_); rintro e w4 ⟨⟨a1, b1', rfl⟩, f4⟩)
      | (go_at_call 19; (refine (hfr w1).mono ?_); rintro e w3 ⟨rfl, f3⟩)
      | (go_at_call 8; (refine (awake02_any w).mono ?_); rintro e w1 ⟨rfl, f1⟩))
  have g4 := ((f1.trans (f3.mono f1.size (by simp))).trans (f4.mono (Nat.le_trans f1.size f3.size) (by simp))).alloc (Nat.le_trans (Nat.le_trans f1.size f3.size) f4.size) (.cells #[.int .u8 (y.toNat : Int)] 5)
  go_region_with (go_at_call 20; (with_reducible refine (hu5 _).mono ?_); rintro e w6 ⟨⟨a2, b2', rfl⟩, f6⟩)
  all_goals
    go_wp2
    go_ret
    exact ⟨rfl, g4.drew.trans (f6.mono g4.size (by simp))⟩
end Go.Proofs.Ytpcbkkccaahdbaa
