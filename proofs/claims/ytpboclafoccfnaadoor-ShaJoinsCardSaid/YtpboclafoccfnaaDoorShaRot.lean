/- The two turns: bits.RotateLeft32 by a number below nought, and the reference's rot. -/
import Derived.Test.YtpboclafoccfnaaDoorProg
import Derived.Test.YtpboclafoccfnaaDoorShaSpec
import Derived.Test.YtpboclafoccfnaaDoorBase
namespace Go.Proofs.YtpboclafoccfnaaDoor
open Go.RowKit
theorem and31 (n : Nat) (h1 : 1 ≤ n) (h2 : n ≤ 31) : bits .and .u64 (IntKind.u64.wrap (-(n : Int))) 31 = ((32 - n : Nat) : Int) := by
  have : ∀ m : Fin 32, 1 ≤ m.val → bits .and .u64 (IntKind.u64.wrap (-(m.val : Int))) 31 = ((32 - m.val : Nat) : Int) := by decide +kernel
  exact this ⟨n, by omega⟩ h1
theorem bits_or_comm (k : IntKind) (x y : Int) : bits .or k x y = bits .or k y x := by
  simp only [bits, BitVec.or_comm]
set_option maxHeartbeats 400000 in
theorem rotl_any (x : Int) (k : Int) (n : Nat) (w : World) (hk : k = -(n : Int)) (h1 : 1 ≤ n) (h2 : n ≤ 31) :
    Calls Tryd.prog 23 #[.int .u32 x, .int .i64 k] w fun e w' => e = .returned (.int .u32 (Sha.rotr x n)) ∧ w = w' := by
  subst hk
  have h3 := and31 n h1 h2
  go_enter Tryd.func23, Tryd.ntmps23
  go_wp2
  go_ret
  exact ⟨ret_int (by show bits _ _ _ _ = _; unfold Sha.rotr; rw [show 32 - (32 - n) = n by omega]), rfl⟩
theorem rotl_lit (x : Int) (k : Int) (w : World) (h1 : -31 ≤ k) (h2 : k ≤ -1) :
    Calls Tryd.prog 23 #[.int .u32 x, .int .i64 k] w fun e w' => e = .returned (.int .u32 (Sha.rotr x (-k).toNat)) ∧ w = w' :=
  rotl_any x k (-k).toNat w (by omega) (by omega) (by omega)
theorem rotl_still (x : Int) (k : Int) (w : World) (h1 : -31 ≤ k) (h2 : k ≤ -1) :
    Calls Tryd.prog 23 #[.int .u32 x, .int .i64 k] w fun e w' => e = .returned (.int .u32 (Sha.rotr x (-k).toNat)) ∧ w' = w :=
  (rotl_lit x k w h1 h2).mono fun _ _ h => ⟨h.1, h.2.symm⟩
set_option maxHeartbeats 400000 in
theorem rot_any (x : Int) (n : Int) (w : World) (h1 : 0 ≤ n) (h2 : n ≤ 32) :
    Calls Tryd.prog 20 #[.int .u32 x, .int .i64 n] w fun e w' => e = .returned (.int .u32 (Sha.rotr x n.toNat)) ∧ w = w' := by
  go_enter Tryd.func20, Tryd.ntmps20
  go_wp2
  go_ret
  exact ⟨ret_int (by show bits _ _ _ _ = _; unfold Sha.rotr; rw [bits_or_comm, show (32 - n).toNat = 32 - n.toNat by omega]), rfl⟩
end Go.Proofs.YtpboclafoccfnaaDoor
