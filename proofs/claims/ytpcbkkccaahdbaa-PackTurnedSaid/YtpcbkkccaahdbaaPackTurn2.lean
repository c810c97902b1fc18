/- PackTurned: the place and the byte found. -/
import Derived.Test.YtpcbkkccaahdbaaPackTurned
namespace Go.Proofs.Ytpcbkkccaahdbaa
open Go.RowKit
open Pk
theorem mkS_app (a b : List UInt8) : mkS a ++ mkS b = mkS (a ++ b) := by
  apply ByteArray.ext
  simp [mkS]
theorem unframe_err (w : World) (l : List UInt8) (e : Int) (hl : l.length ≤ 4611686018427387904) (he : (unframeL l).2.2 = e) (S : ByteArray) (hS : S = mkS l) :
    Calls Try.prog 20 #[.string S] w fun r w' => (∃ a b, r = .returned (.tuple #[.string a, .int .i64 b, .int .i64 e])) ∧ Fr w.heap.size [] w w' := by
  subst hS
  subst he
  exact (unframe_any w l hl).mono fun r w' ⟨h1, h2⟩ => ⟨⟨_, _, h1⟩, h2⟩
theorem turned_law (w : World) (S : ByteArray) (at_ by_ : Int) (ha0 : -9223372036854775808 ≤ at_) (ha1 : at_ ≤ 9223372036854775807) (hb0 : 0 ≤ by_) (hb1 : by_ ≤ 255) :
    Calls Try.prog 5 #[.string S, .int .i64 at_, .int .u8 by_] w fun e w' => e = .returned (.bool true) ∧ Fr w.heap.size [] w w' := by
  by_cases hbig : 65536 < S.size
  · exact big_law w S at_ by_ hbig
  obtain ⟨l, rfl⟩ : ∃ l, S = mkS l := ⟨S.data.toList, (mkS_of S).symm⟩
  rw [mkS_size] at hbig
  have hl : l.length ≤ 65536 := by omega
  obtain ⟨n1, hn1⟩ : ∃ n1, n1 = (numB l.length).length := ⟨_, rfl⟩
  have hp := numB_pos l.length
  have hp10 := numB_len10 (n := l.length) (by omega)
  have hFlen := frameB_len l
  obtain ⟨F, hF⟩ : ∃ F, F = frameB l := ⟨_, rfl⟩
  rw [← hF, ← hn1] at hFlen
  obtain ⟨k0, hk0⟩ : ∃ k0 : Nat, (0 ≤ at_ ∧ at_ = k0) ∨ (at_ < 0 ∧ -(at_ + 1) = (k0 : Int)) := by
    by_cases h : 0 ≤ at_
    · exact ⟨at_.toNat, .inl ⟨h, by omega⟩⟩
    · exact ⟨(-(at_ + 1)).toNat, .inr ⟨by omega, by omega⟩⟩
  obtain ⟨j, hj⟩ : ∃ j, j = k0 % (l.length + 4) := ⟨_, rfl⟩
  have hjl : j < l.length + 4 := by rw [hj]; exact Nat.mod_lt _ (by omega)
  obtain ⟨m, hm⟩ : ∃ m, m = k0 % (n1 + l.length + 4) := ⟨_, rfl⟩
  have hml : m < n1 + l.length + 4 := by rw [hm]; exact Nat.mod_lt _ (by omega)
  have hK : n1 + j < F.length := by omega
  obtain ⟨G, hG⟩ : ∃ G, G = l ++ fourB (crc l) := ⟨_, rfl⟩
  have hGl : G.length = l.length + 4 := by rw [hG, List.length_append]; rfl
  have hFG : F = numB l.length ++ G := by rw [hF, hG]; unfold frameB textB; rw [List.append_assoc]
  have hx : F[n1 + j] = G[j]'(by omega) := by
    simp only [hFG]
    rw [List.getElem_append_right (by omega)]
    congr 1
    omega
  have hsplit : G = G.take j ++ (G[j]'(by omega)) :: G.drop (j + 1) := by
    rw [← List.drop_eq_getElem_cons, List.take_append_drop]
  obtain ⟨x, hxx⟩ : ∃ x, x = G[j]'(by omega) := ⟨_, rfl⟩
  rw [← hxx] at hx hsplit
  have h1 : (unframeL (F.take m)).2.2 = 10 := by rw [hF]; exact unframe_cut l hl m (by rw [← hF]; omega)
  have turn : ∀ y : UInt8, x ≠ y → (unframeL (F.take (n1 + j) ++ [y] ++ F.drop (n1 + j + 1))).2.2 = 13 := fun y hne => by
    have e : F.take (n1 + j) ++ [y] ++ F.drop (n1 + j + 1) = numB l.length ++ (G.take j ++ y :: G.drop (j + 1)) := by
      rw [hFG, List.take_append, List.drop_append, List.take_of_length_le (by omega), List.drop_of_length_le (by omega), show n1 + j - (numB l.length).length = j by omega, show n1 + j + 1 - (numB l.length).length = j + 1 by omega]
      simp
    rw [e]
    rw [hG] at hsplit
    rw [hG]
    exact unframe_turn l _ _ x y hl hsplit hne
  obtain ⟨b', hb', hbb⟩ : ∃ b' : Nat, b' < 256 ∧ b' ≠ 0 ∧ ((by_ = 0 ∧ b' = 1) ∨ (by_ ≠ 0 ∧ by_ = b')) := by
    by_cases h : by_ = 0
    · exact ⟨1, by omega, by omega, .inl ⟨h, rfl⟩⟩
    · exact ⟨by_.toNat, by omega, by omega, .inr ⟨h, by omega⟩⟩
  have hxl := x.toNat_lt
  have hyl : x.toNat ^^^ b' < 256 := Nat.xor_lt_two_pow (n := 8) (by omega) (by omega)
  obtain ⟨y, hy⟩ : ∃ y : UInt8, y.toNat = x.toNat ^^^ b' := ⟨UInt8.ofNat (x.toNat ^^^ b'), ofNat_toNat hyl⟩
  have hne : x ≠ y := fun h => by
    have h2 : x.toNat ^^^ 0 = x.toNat ^^^ b' := by rw [Nat.xor_zero, ← hy, ← h]
    exact hbb.1 (xor_left h2).symm
  have hbits : bits .xor .u8 (x.toNat : Int) (b' : Int) = (y.toNat : Int) := by rw [u8_xor_nat _ _ (by omega) hb', hy]
  have hS1 : (mkS F).extract 0 m = mkS (F.take m) := mkS_take F m
  have hS2 : (mkS F).extract 0 (n1 + j) = mkS (F.take (n1 + j)) := mkS_take F _
  have hS4 : (mkS F).extract (n1 + j + 1) (mkS F).size = mkS (F.drop (n1 + j + 1)) := mkS_drop F _
  have hS5 : mkS (F.take (n1 + j)) ++ mkS [y] ++ mkS (F.drop (n1 + j + 1)) = mkS (F.take (n1 + j) ++ [y] ++ F.drop (n1 + j + 1)) := by rw [mkS_app, mkS_app]
  have hu1 := fun W => unframe_err W (F.take m) 10 (by rw [List.length_take]; omega) h1 _ rfl
  have hu5 := fun W => unframe_err W (F.take (n1 + j) ++ [y] ++ F.drop (n1 + j + 1)) 13 (by simp; omega) (turn y hne) _ rfl
  have hxs : ∀ h : n1 + j < (mkS F).size, ((mkS F)[n1 + j]'h).toNat = x.toNat := fun h => by rw [mkS_get, hx]
  have hfl : (mkS F).size = n1 + l.length + 4 := by rw [mkS_size, hFlen]
  rcases hk0 with ⟨ha, hak⟩ | ⟨ha, hak⟩ <;> rcases hbb.2 with ⟨hb, hbk⟩ | ⟨hb, hbk⟩
  · subst hak
    subst hb
    subst hbk
    exact turned_00 w l F k0 n1 j m (n1 + j) x y _ _ _ _ _ _ hl (by omega) hF hfl (by omega) (by omega) rfl hm hS1 hu1 hj rfl hxs hbits hS2 rfl hS4 hS5 hu5
  · subst hak
    exact turned_01 w l F by_ k0 n1 j m (n1 + j) x y _ _ _ _ _ _ hl (by omega) hF hfl (by omega) (by omega) rfl hm hS1 hu1 hj rfl hxs (beq_eq_false_iff_ne.2 hb) (by rw [hbk]; exact hbits) hS2 rfl hS4 hS5 hu5
  · subst hb
    subst hbk
    exact turned_10 w l F at_ k0 n1 j m (n1 + j) x y _ _ _ _ _ _ hl ha hak ha0 hF hfl (by omega) (by omega) rfl hm hS1 hu1 hj rfl hxs hbits hS2 rfl hS4 hS5 hu5
  · exact turned_11 w l F at_ by_ k0 n1 j m (n1 + j) x y _ _ _ _ _ _ hl ha hak ha0 hF hfl (by omega) (by omega) rfl hm hS1 hu1 hj rfl hxs (beq_eq_false_iff_ne.2 hb) (by rw [hbk]; exact hbits) hS2 rfl hS4 hS5 hu5
end Go.Proofs.Ytpcbkkccaahdbaa
