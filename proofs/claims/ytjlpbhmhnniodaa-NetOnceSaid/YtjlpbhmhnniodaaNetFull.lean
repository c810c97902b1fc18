/- NetFull: the walk. -/
import Derived.Test.YtjlpbhmhnniodaaNetAwake
namespace Go.Proofs.Ytjlpbhmhnniodaa
open Go.RowKit Go.Maps
open Nt
theorem Nt.At.base {B B' : Nat} {K : List Nat} {w w1 W : World} {g : Nat} {made : Int} {ms : List Msg} {D : List (Pair × Unit)} (h : At B' K w1 W g made ms D) (hB : B ≤ B') (hf : Fr B [] w w1) : At B K w W g made ms D := by
  obtain ⟨F, h1, h2, h3, h4⟩ := h
  exact ⟨F, h1, fun q hq => ⟨Nat.le_trans hB (h2 q hq).1, (h2 q hq).2⟩, h3, hf.trans (h4.mono hB (by simp))⟩
theorem at_send1g {B : Nat} {K : List Nat} {w W : World} {g : Nat} {made : Int} {ms : List Msg} {D : List (Pair × Unit)} (h : At B K w W g made ms D) (hm0 : 0 ≤ made) (hm1 : made ≤ 1000000000) (src dst : Int) (hs : okI src) (hd : okI dst) (b : ByteArray) (t : Nat) (ht : t = W.heap.size)
    (m' : Int) (ms' : List Msg) (k : Nat) (hS : sendS src dst [b] made ms = (m', ms', k)) :
    Calls Try.prog 9 #[.pointer (some ⟨g, 0, none⟩), .int .i64 src, .int .i64 dst, .slice (some ⟨t, 0, none⟩) 1 1] (W.alloc (.cells #[.string b] 9)) fun e w' => e = .returned (.int .i64 (k : Int)) ∧ At B K w w' g m' ms' D ∧ Kp K W w' := by
  subst ht
  exact at_send1 h hm0 hm1 src dst hs hd b m' ms' k hS
/-- k messages of one body. -/
def Nt.fullMs (body : ByteArray) (k : Nat) : List Msg := (List.range k).map fun (j : Nat) => ⟨(j : Int) + 1, 1, 2, body⟩
theorem Nt.fullMs_len (body : ByteArray) (k : Nat) : (fullMs body k).length = k := by simp [fullMs]
theorem Nt.fullMs_send (body : ByteArray) (k : Nat) : sendS 1 2 [body] ((min k 4096 : Nat) : Int) (fullMs body (min k 4096)) = (((min (k + 1) 4096 : Nat) : Int), fullMs body (min (k + 1) 4096), min (k + 1) 4096 - min k 4096) := by
  by_cases h : k < 4096
  · rw [Nat.min_eq_left (by omega), Nat.min_eq_left (by omega)]
    unfold sendS
    rw [if_neg (by rw [fullMs_len]; omega)]
    simp [sendS, fullMs, List.range_succ]
  · rw [Nat.min_eq_right (by omega), Nat.min_eq_right (by omega), sendS_full _ _ _ _ _ (by rw [fullMs_len]; omega)]
theorem Nt.fullMs_zero (body : ByteArray) (k : Nat) : (fullMs body (k + 1))[0]? = some ⟨1, 1, 2, body⟩ := by
  simp [fullMs]
theorem Nt.want_all (ms : List Msg) : ms.filter (wantB [] []) = ms := List.filter_eq_self.2 fun _ _ => rfl
theorem Nt.pickS_zero (ms : List Msg) : pickS ms 0 = ms[0]? := by
  unfold pickS pickI
  simp
theorem Nt.fullMs_taken (body : ByteArray) (k : Nat) : takenS (fullMs body (k + 1)) [] 0 = some ⟨1, 1, 2, body⟩ := by
  unfold takenS
  rw [want_all, pickS_zero, fullMs_zero]
theorem Nt.fullMs_rest (body : ByteArray) (k : Nat) : (takeS (fullMs body (k + 1)) [] 0).length = k := by
  unfold takeS
  rw [fullMs_taken]
  simp only
  unfold fullMs
  rw [List.range_succ_eq_map, List.map_cons, List.filter_cons, if_neg (by simp), List.filter_eq_self.2]
  · simp
  · intro m hm
    simp only [List.map_map, List.mem_map] at hm
    obtain ⟨j, _, rfl⟩ := hm
    simp
    omega
theorem Nt.full_double (body : ByteArray) : doubleS 4096 (fullMs body 4096) 0 = (4096, fullMs body 4096, 0) := by
  unfold doubleS
  rw [pickS_zero, fullMs_zero]
  exact sendS_full _ _ _ _ _ (by rw [fullMs_len]; omega)
theorem tmod5 (a : Int) : -5 < a.tmod 5 ∧ a.tmod 5 < 5 := ⟨Int.lt_tmod_of_pos a (by decide), Int.tmod_lt_of_pos a (by decide)⟩
set_option maxHeartbeats 4000000 in
theorem full_law (w : World) (body : ByteArray) (more : Int) : Calls Try.prog 4 #[.string body, .int .i64 more] w fun e w' => e = .returned (.bool true) ∧ Fr w.heap.size [] w w' := by
  have hmod := tmod5 more
  have o0 : okI 0 := okI_small (by decide) (by decide)
  have o1 : okI 1 := okI_small (by decide) (by decide)
  have o2 : okI 2 := okI_small (by decide) (by decide)
  go_enter Try.func4, Try.ntmps4
  go_wp2_with (first
    | (go_at_call 8; (refine (at_new w1).mono ?_); rintro e w2 ⟨rfl, h2⟩)
    | (go_at_call 7; (refine (awake_any w).mono ?_); rintro e w1 ⟨rfl, f1⟩))
  all_goals
    obtain ⟨kk, hk4, hke⟩ : ∃ kk : Nat, kk ≤ 4 ∧ (if more.tmod 5 < 0 then -more.tmod 5 else more.tmod 5) = (kk : Int) := ⟨(if more.tmod 5 < 0 then -more.tmod 5 else more.tmod 5).toNat, by split <;> omega, by split <;> omega⟩
    first
      | rw [if_pos (by assumption)] at hke
      | rw [if_neg (by omega)] at hke
    first
      | rw [show decide (more.tmod 5 < 0) = true by rw [decide_eq_true_eq]; omega]
      | rw [show decide (more.tmod 5 < 0) = false by rw [decide_eq_false_iff_not]; omega]
    rw [hke]
    clear hke hmod
    have h3 := h2.base f1.size f1
    clear h2
    obtain ⟨G, hG⟩ : ∃ G, G = w1.heap.size := ⟨_, rfl⟩
    rw [← hG] at h3
    have hGs : w1.heap.size = G := hG.symm
    rw [hGs]
    clear hG hGs
    go_loopw [8, 9] (fun s i wr => ∃ k : Nat, k ≤ 4096 + kk ∧ i = .int .i64 (k : Int) ∧ s = .int .i64 ((min k 4096 : Nat) : Int) ∧ At w.heap.size [] w wr G ((min k 4096 : Nat) : Int) (fullMs body (min k 4096)) []) (fun _ i _ => 4096 + kk - (intOf i).toNat)
    case atStart => exact ⟨0, by omega, rfl, rfl, h3⟩
    case round =>
      obtain ⟨k, hk, rfl, rfl, h⟩ := hrel
      by_cases hlt : k < 4096 + kk
      · have hki : (k : Int) < 4096 + (kk : Int) := by omega
        have q := at_send1 h (by omega) (by omega) 1 2 o1 o2 body _ _ _ (fullMs_send body k)
        go_wp2_with (go_at_call 9; (with_reducible refine q.mono ?_); rintro e w4 ⟨rfl, h4, _⟩)
        go_roundw
        case rel => exact ⟨k + 1, by omega, by go_num, congrArg (Value.int IntKind.i64) (by omega), h4⟩
        case measure => simp [intOf]; omega
      · have hkn : k = 4096 + kk := by omega
        have hki : ¬ ((k : Int) < 4096 + (kk : Int)) := by omega
        have hmin : min k 4096 = 4096 := by omega
        rw [hmin] at h ⊢
        clear hlt hkn hmin
        have q1 := at_double h (by rw [fullMs_len]; omega) (by decide) (by decide) 0 o0
        rw [show ((4096 : Nat) : Int) = 4096 from rfl, full_double] at q1
        obtain ⟨T, hT⟩ : ∃ T, takeS (fullMs body 4096) [] 0 = T := ⟨_, rfl⟩
        have hTl : T.length = 4095 := by rw [← hT]; exact fullMs_rest body 4095
        have hS : sendS 1 2 [body] 4096 T = (4097, T ++ [(⟨4097, 1, 2, body⟩ : Msg)], 1) := by
          unfold sendS
          rw [if_neg (by omega)]
          rfl
        have hW : ((T ++ [(⟨4097, 1, 2, body⟩ : Msg)]).filter (wantB [] [])).length = 4096 := by rw [want_all]; simp [hTl]
        obtain ⟨T2, hT2⟩ : ∃ T2, T ++ [(⟨4097, 1, 2, body⟩ : Msg)] = T2 := ⟨_, rfl⟩
        have hT2l : T2.length ≤ 1000000 := by rw [← hT2]; simp [hTl]
        rw [hT2] at hS hW
        clear hT2
        have hTk := fullMs_taken body 4095
        have hfl : (fullMs body 4096).length ≤ 1000000 := by rw [fullMs_len]; omega
        have q2 := fun (W : World) (hW : At w.heap.size [] w W G 4096 (fullMs body 4096) []) => at_take' hW hfl 0 o0 _ _ hTk hT ⟨1, 1, 2, body⟩ rfl true rfl
        clear hT hTk hfl
        go_wp2_with (first
          | (go_at_call 14; (with_reducible refine q4.mono ?_); rintro e w8 ⟨A8, cp8, rfl, _, h8, _⟩)
          | (go_at_call 9; (with_reducible refine q3.mono ?_); rintro e w7 ⟨rfl, h7, k7⟩; have HB := k7.has (by simp) (Has.new w6 34 [.int .i64 1, .int .i64 1, .int .i64 2, .string body]); have c0 : w7.cell? ⟨w6.heap.size, 0, none⟩ = some (.int .i64 1) := HB.cell 0; have q4 := at_waits0 h7 hT2l 0; rw [hW] at q4)
          | (go_at_call 11; (with_reducible refine (q2 _ h5).mono ?_); rintro e w6 ⟨rfl, h6, _⟩; have q3 := at_send1g (h6.keep (.cells #[.int .i64 1, .int .i64 1, .int .i64 2, .string body] 34)) (by decide) (by decide) 1 2 o1 o2 body (w6.heap.size + 1) (by simp) _ _ _ hS)
          | (go_at_call 15; (with_reducible refine q1.mono ?_); rintro e w5 ⟨rfl, h5, _⟩))
        go_ret
        exact ⟨rfl, h8.frame⟩
end Go.Proofs.Ytjlpbhmhnniodaa
