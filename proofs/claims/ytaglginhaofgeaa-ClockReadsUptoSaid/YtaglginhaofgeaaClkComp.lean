/- Compare, Same. -/
import Derived.Test.YtaglginhaofgeaaClkNext
import Derived.Shelf.Abstract
namespace Go.Proofs.Ytaglginhaofgeaa
open Go.RowKit
open Ck
set_option maxHeartbeats 1000000 in
theorem idxF_any (w : World) (A : Option Addr) (c : Nat) (ms : List Dot) (g : FuncId) (lb : Array Value) (p : Dot → Bool) (eg : ∀ args w, (callFunc g args).run Try.prog w = .ok (.enter g args) w) (h : ARow w w.heap.size A (ms.flatMap Dot.cells)) (hl : ms.length ≤ 4611686018427387904)
    (hp : ∀ W, Fr w.heap.size [] w W → ∀ m ∈ ms, Calls Try.prog g (#[.agg #[.int .u64 (m.a : Int), .int .u64 (m.n : Int)]] ++ lb) W fun e w' => e = .returned (.bool (p m)) ∧ Fr W.heap.size [] W w') :
    Calls Try.prog 65 #[.slice A ms.length c, .func (.func g) #[] lb] w fun e w' => (((∀ m ∈ ms, p m = false) ∧ e = .returned (.int .i64 (-1))) ∨ ∃ (k : Nat) (hk : k < ms.length), e = .returned (.int .i64 (k : Int)) ∧ p ms[k] = true ∧ ∀ m ∈ ms.take k, p m = false) ∧ Fr w.heap.size [] w w' := by
  go_enter Try.func65, Try.ntmps65
  go_wp2
  go_loopw [8] (fun i wr => ∃ k : Nat, k ≤ ms.length ∧ i = .int .i64 (k : Int) ∧ Fr w.heap.size [] w wr ∧ ∀ m ∈ ms.take k, p m = false) (fun i _ => ms.length - (intOf i).toNat)
  case atStart => exact ⟨0, by omega, rfl, Fr.refl _ _ _, by simp⟩
  case round =>
    obtain ⟨k, hk, rfl, hF, hno⟩ := hrel
    by_cases hlt : k < ms.length
    · obtain ⟨x, hx⟩ : ∃ x, Hid (x = ms[k]'hlt) := ⟨ms[k]'hlt, rfl⟩
      have hki : (k : Int) < ms.length := by omega
      obtain ⟨blk, o, rfl, hb, d0, d1⟩ := dot_cells (h.fr hF (Nat.le_refl _) (by simp)) k hlt
      rw [← hx.out] at d0 d1
      have hc : Calls Try.prog g (#[.agg #[.int .u64 (x.a : Int), .int .u64 (x.n : Int)]] ++ lb) wr fun e w' => e = .returned (.bool (p x)) ∧ Fr wr.heap.size [] wr w' := hp wr hF x (by rw [hx.out]; exact List.getElem_mem _)
      obtain ⟨b, hpb⟩ : ∃ b, p x = b := ⟨_, rfl⟩
      rw [hpb] at hc
      clear hp
      cases b
      · go_wp2_with (go_at_fn g; (refine hc.mono ?_); rintro e w2 ⟨rfl, f2⟩)
        go_roundw
        case rel =>
          refine ⟨k + 1, by omega, by go_num, hF.trans (f2.mono hF.size (by simp)), fun m hm => ?_⟩
          rw [List.take_succ_eq_append_getElem hlt, List.mem_append] at hm
          rcases hm with hm | hm
          · exact hno m hm
          · simp only [List.mem_singleton] at hm
            rw [hm, ← hx.out]; exact hpb
        case measure => simp [intOf]; omega
      · go_wp2_with (go_at_fn g; (refine hc.mono ?_); rintro e w2 ⟨rfl, f2⟩)
        go_ret
        exact ⟨.inr ⟨k, hlt, rfl, by rw [← hx.out]; exact hpb, hno⟩, hF.trans (f2.mono hF.size (by simp))⟩
    · have hki : ¬ ((k : Int) < ms.length) := by omega
      go_wp2
      go_ret
      refine ⟨.inl ⟨fun m hm => hno m (by rw [List.take_of_length_le (by omega)]; exact hm), rfl⟩, hF⟩
def Ck.withinB (xs ys : List Dot) : Bool := xs.all (coversB ys)
set_option maxHeartbeats 1000000 in
theorem withinF_any (w : World) (d : Dot) (b : Nat) (v : Value) (ys : List Dot) (hys : ys.length ≤ 8796093022208) (hI : ClkIn w v ys) (hb : b < w.heap.size) (hc : w.cell? ⟨b, 0, none⟩ = some v) :
    Calls Try.prog 45 #[.agg #[.int .u64 (d.a : Int), .int .u64 (d.n : Int)], .pointer (some ⟨b, 0, none⟩)] w fun e w' => e = .returned (.bool (!coversB ys d)) ∧ Fr w.heap.size [] w w' := by
  have hF := (Fr.refl w.heap.size [] w).alloc (Nat.le_refl _) (.cells #[.int .u64 (d.a : Int), .int .u64 (d.n : Int)] 27)
  have hcv := covers_any _ v ys d hys (clkIn_fr hI hF)
  have hc' := (hF.cell (p := ⟨b, 0, none⟩) hb (by simp)).trans hc
  obtain ⟨A, c, rfl, _⟩ := hI
  go_enter Try.func45, Try.ntmps45
  go_wp2_with (go_at_call 14; (refine hcv.mono ?_); rintro e w1 ⟨rfl, f1⟩)
  go_ret
  exact ⟨rfl, hF.trans (f1.mono hF.size (by simp))⟩
set_option maxHeartbeats 1000000 in
theorem hasF_any (w : World) (A : Option Addr) (c : Nat) (ms : List Dot) (g : FuncId) (lb : Array Value) (p : Dot → Bool) (eg : ∀ args w, (callFunc g args).run Try.prog w = .ok (.enter g args) w) (h : ARow w w.heap.size A (ms.flatMap Dot.cells)) (hl : ms.length ≤ 4611686018427387904)
    (hp : ∀ W, Fr w.heap.size [] w W → ∀ m ∈ ms, Calls Try.prog g (#[.agg #[.int .u64 (m.a : Int), .int .u64 (m.n : Int)]] ++ lb) W fun e w' => e = .returned (.bool (p m)) ∧ Fr W.heap.size [] W w') :
    Calls Try.prog 44 #[.slice A ms.length c, .func (.func g) #[] lb] w fun e w' => e = .returned (.bool (ms.any p)) ∧ Fr w.heap.size [] w w' := by
  have hix : Calls Try.prog 65 #[.slice A ms.length c, .func (.func g) #[] lb] w fun e w' => (∃ r : Int, e = .returned (.int .i64 r) ∧ decide (0 ≤ r) = ms.any p) ∧ Fr w.heap.size [] w w' := (idxF_any w A c ms g lb p eg h hl hp).mono fun e w' ⟨h1, h2⟩ => ⟨by
    rcases h1 with ⟨h1, rfl⟩ | ⟨k, hk, rfl, h3, _⟩
    · exact ⟨-1, rfl, by rw [show ms.any p = false from List.any_eq_false.2 fun m hm => by simpa using h1 m hm]; rfl⟩
    · exact ⟨k, rfl, by rw [show ms.any p = true from List.any_eq_true.2 ⟨_, List.getElem_mem hk, h3⟩]; simp⟩, h2⟩
  clear hp
  go_enter Try.func44, Try.ntmps44
  go_wp2_with (go_at_call 65; (refine hix.mono ?_); rintro e w1 ⟨⟨r, rfl, hr⟩, f1⟩)
  go_ret
  exact ⟨by first | rfl | (rw [hr]), f1⟩
set_option maxHeartbeats 1000000 in
theorem within_any (w : World) (u v : Value) (xs ys : List Dot) (hxs : xs.length ≤ 8796093022208) (hys : ys.length ≤ 8796093022208) (hu : ClkIn w u xs) (hI : ClkIn w v ys) :
    Calls Try.prog 43 #[u, v] w fun e w' => e = .returned (.bool (withinB xs ys)) ∧ Fr w.heap.size [] w w' := by
  have hF := (Fr.refl w.heap.size [] w).alloc (Nat.le_refl _) (.cells #[v] 23)
  have hB := (Has.new w 23 [v]).cell 0
  have hI' := clkIn_fr hI hF
  have hu' := clkIn_fr hu hF
  have hwi : withinB xs ys = !xs.any (fun d => !coversB ys d) := by unfold withinB; rw [List.all_eq_not_any_not]
  obtain ⟨A, c, rfl, hA⟩ := hu'
  obtain ⟨A2, c2, rfl, _⟩ := hI
  have hh := hasF_any _ A c xs 45 #[.pointer (some ⟨w.heap.size, 0, none⟩)] (fun d => !coversB ys d) (Go.Proofs.enters_of Try.func45 (by kernel_rfl) rfl) hA (by omega) (fun W hW d _ => withinF_any W d w.heap.size _ ys hys (clkIn_fr hI' hW) (Nat.lt_of_lt_of_le (by simp) hW.size) ((hW.cell (p := ⟨w.heap.size, 0, none⟩) (by simp) (by simp)).trans hB))
  rw [hwi]
  obtain ⟨r, hr⟩ : ∃ r, xs.any (fun d => !coversB ys d) = r := ⟨_, rfl⟩
  rw [hr] at hh ⊢
  clear hr hwi
  go_enter Try.func43, Try.ntmps43
  go_wp2_with (go_at_call 44; (refine hh.mono ?_); rintro e w1 ⟨rfl, f1⟩)
  go_ret
  exact ⟨rfl, hF.trans (f1.mono hF.size (by simp))⟩
end Go.Proofs.Ytaglginhaofgeaa
