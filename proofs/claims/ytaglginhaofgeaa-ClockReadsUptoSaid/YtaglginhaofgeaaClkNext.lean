/- Next, Actor, Parts. -/
import Derived.Test.YtaglginhaofgeaaClkGet
import Derived.Laws.Bits64
import Derived.Laws.BitsAllLaws
namespace Go.Proofs.Ytaglginhaofgeaa
open Go.RowKit Go.Shelf
open Ck
def Ck.nextN (ds : List Dot) (ac : Nat) : Dot := ⟨ac, if getN ds ac < 18446744073709551615 then getN ds ac + 1 else getN ds ac⟩
set_option maxHeartbeats 1000000 in
set_option maxRecDepth 100000 in
theorem next_any (w : World) (v : Value) (ds : List Dot) (ac : Nat) (hds : ds.length ≤ 8796093022208) (hI : ClkIn w v ds) (hb : getN ds ac < 18446744073709551616) :
    Calls Try.prog 22 #[v, .int .u64 (ac : Int)] w fun e w' => e = .returned (.agg #[.int .u64 ((nextN ds ac).a : Int), .int .u64 ((nextN ds ac).n : Int)]) ∧ Fr w.heap.size [] w w' := by
  have hF := (Fr.refl w.heap.size [] w).alloc (Nat.le_refl _) (.cells #[.int .u64 0, .int .u64 0] 27)
  have hH := Has.new w 27 [.int .u64 0, .int .u64 0]
  have hg := get_any _ v ds ac hds (clkIn_fr hI hF)
  obtain ⟨A, c, rfl, _⟩ := hI
  unfold nextN
  obtain ⟨m, hm⟩ : ∃ m, getN ds ac = m := ⟨_, rfl⟩
  rw [hm] at hg hb ⊢
  obtain ⟨k, hk⟩ : ∃ k : Nat, (if m < 18446744073709551615 then m + 1 else m) = k := ⟨_, rfl⟩
  rw [hk]
  have hend : ∀ w1, Fr (w.alloc (.cells #[.int .u64 0, .int .u64 0] 27)).heap.size [] (w.alloc (.cells #[.int .u64 0, .int .u64 0] 27)) w1 → w1.cell? ⟨w.heap.size, 0, none⟩ = some (.int .u64 0) ∧ w1.cell? ⟨w.heap.size, 1, none⟩ = some (.int .u64 0) ∧ w1.frozen? ⟨w.heap.size, 0, none⟩ = false ∧ w1.frozen? ⟨w.heap.size, 1, none⟩ = false ∧
      ((w1.setCell ⟨w.heap.size, 0, none⟩ (.int .u64 (ac : Int))).setCell ⟨w.heap.size, 1, none⟩ (.int .u64 (k : Int))).cell? ⟨w.heap.size, 0, none⟩ = some (.int .u64 (ac : Int)) ∧ ((w1.setCell ⟨w.heap.size, 0, none⟩ (.int .u64 (ac : Int))).setCell ⟨w.heap.size, 1, none⟩ (.int .u64 (k : Int))).cell? ⟨w.heap.size, 1, none⟩ = some (.int .u64 (k : Int)) ∧
      Fr w.heap.size [] w ((w1.setCell ⟨w.heap.size, 0, none⟩ (.int .u64 (ac : Int))).setCell ⟨w.heap.size, 1, none⟩ (.int .u64 (k : Int))) := fun w1 f1 => by
    have h1 := hH.fr f1 (by simp) (by simp)
    have h2 := (h1.set 0 (.int .u64 (ac : Int))).set 1 (.int .u64 (k : Int))
    exact ⟨h1.cell 0, h1.cell 1, h1.frozen 0, h1.frozen 1, h2.cell 0, h2.cell 1, ((hF.trans (f1.mono hF.size (by simp))).setCell (.inr (Nat.le_refl _)) _).setCell (.inr (Nat.le_refl _)) _⟩
  by_cases h0 : m < 18446744073709551615
  · have hi0 : (m : Int) < 18446744073709551615 := by omega
    rw [if_pos h0] at hk
    have hki : (m : Int) + 1 = (k : Int) := by omega
    go_enter Try.func22, Try.ntmps22
    go_wp2_with (go_at_call 24; (refine hg.mono ?_); rintro e w1 ⟨rfl, f1⟩; obtain ⟨t0, t1, t2, t3, t4, t5, t6⟩ := hend w1 f1)
    refine bodyPost_ret (v := .agg #[.int .u64 (ac : Int), .int .u64 (k : Int)]) (by simp [results, Try.results22, go_sem, t4, t5]) rfl ⟨rfl, t6⟩
  · have hi0 : ¬ (m : Int) < 18446744073709551615 := by omega
    rw [if_neg h0] at hk
    subst hk
    have hd : decide ((m : Int) < 18446744073709551615) = false := by rw [decide_eq_false_iff_not]; exact hi0
    clear h0 hb hm hi0
    go_enter Try.func22, Try.ntmps22
    go_wp2_with (go_at_call 24; (refine hg.mono ?_); rintro e w1 ⟨rfl, f1⟩; obtain ⟨t0, t1, t2, t3, t4, t5, t6⟩ := hend w1 f1)
    refine bodyPost_ret (v := .agg #[.int .u64 (ac : Int), .int .u64 (m : Int)]) (by simp [results, Try.results22, go_sem, t4, t5]) rfl ⟨rfl, t6⟩
theorem wraps_u64 (n : Int) (h₀ : 0 ≤ n) (h₁ : n < 2 ^ 64) : IntKind.u64.wrap n = n := by rw [IntKind.wrap_u64]; omega
theorem or_u64 (i : Nat) (x y : Int) (hx₀ : 0 ≤ x) (hx : x % 2 ^ i = 0) (hx₁ : x < 2 ^ 64) (hy₀ : 0 ≤ y) (hy : y < 2 ^ i) (hy₁ : y < 2 ^ 64) : bits .or .u64 x y = x + y :=
  bits_join .u64 64 (by decide) wraps_u64 i x y hx₀ hx hx₁ hy₀ hy hy₁
def Ck.actorN (a b c : Int) : Int := (a % 65536) * 281474976710656 + (b % 65536) * 4294967296 + c % 4294967296
set_option maxRecDepth 100000 in
theorem actor_any (w : World) (a b c : Int) : Calls Try.prog 33 #[.int .i64 a, .int .i64 b, .int .i64 c] w fun e w' => e = .returned (.int .u64 (actorN a b c)) ∧ w' = w := by
  have e : bits .or .u64 (bits .or .u64 (IntKind.u64.wrap (IntKind.u64.wrap (IntKind.u16.wrap a) * 281474976710656)) (IntKind.u64.wrap (IntKind.u64.wrap (IntKind.u16.wrap b) * 4294967296))) (c % 4294967296) = actorN a b c := by
    simp only [IntKind.wrap_u64, IntKind.wrap_u16]
    have h1 : a % 65536 % 18446744073709551616 * 281474976710656 % 18446744073709551616 = (a % 65536) * 281474976710656 := by omega
    have h2 : b % 65536 % 18446744073709551616 * 4294967296 % 18446744073709551616 = (b % 65536) * 4294967296 := by omega
    have hA := or_u64 48 (a % 65536 * 281474976710656) (b % 65536 * 4294967296) (by omega) (by omega) (by omega) (by omega) (by omega) (by omega)
    rw [h1, h2, hA, or_u64 32 _ _ (by omega) (by omega) (by omega) (by omega) (by omega) (by omega)]
    rfl
  go_enter Try.func33, Try.ntmps33
  go_wp2
  go_ret
  exact ⟨rfl, rfl⟩
set_option maxRecDepth 100000 in
theorem parts_any (w : World) (x : Int) (h0 : 0 ≤ x) (h1 : x < 18446744073709551616) : Calls Try.prog 34 #[.int .u64 x] w fun e w' => e = .returned (.tuple #[.int .i64 (x / 281474976710656), .int .i64 (x / 4294967296 % 65536), .int .i64 (x % 4294967296)]) ∧ w' = w := by
  have e : wrap64 (IntKind.u16.wrap (x / 4294967296)) = x / 4294967296 % 65536 := by
    rw [IntKind.wrap_u16]
    unfold wrap64
    omega
  go_enter Try.func34, Try.ntmps34
  go_wp2
  refine bodyPost_ret (v := .tuple #[.int .i64 (x / 281474976710656), .int .i64 (x / 4294967296 % 65536), .int .i64 (x % 4294967296)]) (by simp [results, Try.results34, go_sem, e]) rfl ⟨rfl, rfl⟩
end Go.Proofs.Ytaglginhaofgeaa
