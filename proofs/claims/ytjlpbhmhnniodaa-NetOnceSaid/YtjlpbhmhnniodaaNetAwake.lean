/- The law's awake. -/
import Derived.Test.YtjlpbhmhnniodaaNetAt
namespace Go.Proofs.Ytjlpbhmhnniodaa
open Go.RowKit Go.Maps
open Nt
namespace Nt
def sa : ByteArray := ⟨#[97]⟩
def sb : ByteArray := ⟨#[98]⟩
def sc : ByteArray := ⟨#[99]⟩
def M1 : Msg := ⟨1, 1, 2, ⟨#[97]⟩⟩
def M2 : Msg := ⟨2, 1, 2, ⟨#[98]⟩⟩
def M3 : Msg := ⟨3, 2, 1, ⟨#[99]⟩⟩
def M4 : Msg := ⟨4, 1, 2, ⟨#[97]⟩⟩
end Nt
theorem okI_small {a : Int} (h : -1000 ≤ a) (h2 : a ≤ 1000) : okI a := by unfold okI; omega
theorem at_send' {B : Nat} {K : List Nat} {w W : World} {g : Nat} {made : Int} {ms : List Msg} {D : List (Pair × Unit)} (h : At B K w W g made ms D) (hm0 : 0 ≤ made) (hm1 : made ≤ 1000000000) (src dst : Int) (hs : okI src) (hd : okI dst) (bs : List ByteArray) (hb : bs.length ≤ 1000000) (n c : Nat) (hn : n = bs.length)
    (m' : Int) (ms' : List Msg) (k : Nat) (hS : sendS src dst bs made ms = (m', ms', k)) :
    Calls Try.prog 9 #[.pointer (some ⟨g, 0, none⟩), .int .i64 src, .int .i64 dst, .slice (some ⟨W.heap.size, 0, none⟩) n c] (W.alloc (.cells (bs.map Value.string).toArray 9)) fun e w' => e = .returned (.int .i64 (k : Int)) ∧ At B K w w' g m' ms' D ∧ Kp K W w' := by
  have := at_send h hm0 hm1 src dst hs hd bs hb n c hn
  rw [hS] at this
  exact this
theorem at_take' {B : Nat} {K : List Nat} {w W : World} {g : Nat} {made : Int} {ms : List Msg} {D : List (Pair × Unit)} (h : At B K w W g made ms D) (hms : ms.length ≤ 1000000) (pick : Int) (hp : okI pick) (o : Option Msg) (ms' : List Msg) (ho : takenS ms D pick = o) (hs : takeS ms D pick = ms') (x : Msg) (hx : o.getD zeroMsg = x) (is : Bool) (hi : o.isSome = is) :
    Calls Try.prog 11 #[.pointer (some ⟨g, 0, none⟩), .int .i64 pick] W fun e w' => e = .returned (.tuple #[.agg #[.int .i64 x.n, .int .i64 x.src, .int .i64 x.dst, .string x.body], .bool is]) ∧ At B K w w' g made ms' D ∧ Kp K W w' := by
  have := at_take h hms pick hp
  rw [ho, hs, hi, hx] at this
  exact this
theorem at_send1 {B : Nat} {K : List Nat} {w W : World} {g : Nat} {made : Int} {ms : List Msg} {D : List (Pair × Unit)} (h : At B K w W g made ms D) (hm0 : 0 ≤ made) (hm1 : made ≤ 1000000000) (src dst : Int) (hs : okI src) (hd : okI dst) (b : ByteArray)
    (m' : Int) (ms' : List Msg) (k : Nat) (hS : sendS src dst [b] made ms = (m', ms', k)) :
    Calls Try.prog 9 #[.pointer (some ⟨g, 0, none⟩), .int .i64 src, .int .i64 dst, .slice (some ⟨W.heap.size, 0, none⟩) 1 1] (W.alloc (.cells #[.string b] 9)) fun e w' => e = .returned (.int .i64 (k : Int)) ∧ At B K w w' g m' ms' D ∧ Kp K W w' :=
  at_send' h hm0 hm1 src dst hs hd [b] (by simp) 1 1 rfl m' ms' k hS
theorem at_send2 {B : Nat} {K : List Nat} {w W : World} {g : Nat} {made : Int} {ms : List Msg} {D : List (Pair × Unit)} (h : At B K w W g made ms D) (hm0 : 0 ≤ made) (hm1 : made ≤ 1000000000) (src dst : Int) (hs : okI src) (hd : okI dst) (b c : ByteArray)
    (m' : Int) (ms' : List Msg) (k : Nat) (hS : sendS src dst [b, c] made ms = (m', ms', k)) :
    Calls Try.prog 9 #[.pointer (some ⟨g, 0, none⟩), .int .i64 src, .int .i64 dst, .slice (some ⟨W.heap.size, 0, none⟩) 2 2] (W.alloc (.cells #[.string b, .string c] 9)) fun e w' => e = .returned (.int .i64 (k : Int)) ∧ At B K w w' g m' ms' D ∧ Kp K W w' :=
  at_send' h hm0 hm1 src dst hs hd [b, c] (by simp) 2 2 rfl m' ms' k hS
theorem at_waits1 {B : Nat} {K : List Nat} {w W : World} {g : Nat} {made : Int} {ms : List Msg} {D : List (Pair × Unit)} (h : At B K w W g made ms D) (hms : ms.length ≤ 1000000) (x : Int) (ms' : List Msg) (hW : ms.filter (wantB D [x]) = ms') (n : Nat) (hn : ms'.length = n) :
    Calls Try.prog 14 #[.pointer (some ⟨g, 0, none⟩), .slice (some ⟨W.heap.size, 0, none⟩) 1 1] (W.alloc (.cells #[.int .i64 x] 3)) fun e w' => ∃ A c', e = .returned (.slice A n c') ∧ ARow w' w'.heap.size A (ms'.flatMap Msg.cells) ∧ At B K w w' g made ms D ∧ Kp K W w' := by
  subst hW hn
  exact at_waits h hms [x] (by simp) 1 1 rfl
theorem at_heal1 {B : Nat} {K : List Nat} {w W : World} {g : Nat} {made : Int} {ms : List Msg} {D : List (Pair × Unit)} (h : At B K w W g made ms D) (hDl : D.length ≤ 1000000) (x : Int) :
    Calls Try.prog 13 #[.pointer (some ⟨g, 0, none⟩), .slice (some ⟨W.heap.size, 0, none⟩) 1 1] (W.alloc (.cells #[.int .i64 x] 3)) fun e w' => e = .returned (.int .i64 ((D.length : Int) - (healS D [x]).length)) ∧ At B K w w' g made ms (healS D [x]) ∧ Kp K W w' :=
  at_heal h hDl [x] (by simp) 1 1 rfl
set_option maxHeartbeats 4000000 in
theorem awake_any (w : World) : Calls Try.prog 7 #[] w fun e w' => e = .returned (.bool true) ∧ Fr w.heap.size [] w w' := by
  have S1 : sendS 1 2 [⟨#[97]⟩, ⟨#[98]⟩] 0 [] = (2, [M1, M2], 2) := rfl
  have S2 : sendS 2 1 [⟨#[99]⟩] 2 [M1, M2] = (3, [M1, M2, M3], 1) := rfl
  have o0 : okI 0 := okI_small (by decide) (by decide)
  have o1 : okI 1 := okI_small (by decide) (by decide)
  have o2 : okI 2 := okI_small (by decide) (by decide)
  have o4 : okI 4 := okI_small (by decide) (by decide)
  go_enter Try.func7, Try.ntmps7
  have C1 : cutS [] 1 2 = [((1, 2), ())] := rfl
  have W1 : [M1, M2, M3].filter (wantB [((1, 2), ())] []) = [] := rfl
  have H1 : healS [((1, 2), ())] [] = [] := rfl
  have T1 : takenS [M1, M2, M3] [] 4 = some M2 := rfl
  have T2 : takeS [M1, M2, M3] [] 4 = [M1, M3] := rfl
  have E1 : doubleS 3 [M1, M3] 0 = (4, [M1, M3, M4], 1) := rfl
  have R1 : dropS [M1, M3, M4] 1 = [M1, M4] := rfl
  have R2 : dropB [M1, M3, M4] 1 = true := rfl
  have W2 : [M1, M4].filter (wantB [] [2]) = [M1, M4] := rfl
  have J1 : joinB [] 1 2 = true := rfl
  have L1 : loseS [M1, M4] 1 = [] := rfl
  go_wp2_with (first
    | (go_at_call 17; (with_reducible refine qb.mono ?_); rintro e w12 ⟨rfl, h12, k12⟩)
    | (go_at_call 12; (with_reducible refine qa.mono ?_); rintro e w11 ⟨rfl, h11, k11⟩; have qb := at_lose h11 (by decide) 1; rw [L1] at qb)
    | (go_at_call 14; (with_reducible refine q9.mono ?_); rintro e w10 ⟨A2, c2, rfl, hA2, h10, k10⟩; have HB10 := k10.has (by simp) HB9;
        obtain ⟨b0, b1, b2, b3⟩ : _ ∧ _ ∧ _ ∧ _ := ⟨HB10.cell 0, HB10.cell 1, HB10.cell 2, HB10.cell 3⟩;
        obtain ⟨blk, o, rfl, hbl, y0, y1, y2, y3⟩ := msg_cells hA2 1 (by decide);
        have t0 : w10.cell? ⟨blk, o + 1 * 4, none⟩ = some (.int .i64 4) := y0;
        have t3 : w10.cell? ⟨blk, o + 1 * 4 + 3, none⟩ = some (.string ⟨#[97]⟩) := y3;
        rw [Nat.one_mul] at t0 t3;
        clear y0 y1 y2 y3;
        have qa := at_joined h10 1 2 o1 o2; rw [J1] at qa)
    | (go_at_call 16; (with_reducible refine q8.mono ?_); rintro e w9 ⟨rfl, h9, k9⟩; have q9 := at_waits1 h9 (by decide) 2 _ W2 2 rfl; have HB9 := k9.has (by simp) (k8.has (by simp) HB))
    | (go_at_call 15; (with_reducible refine q7.mono ?_); rintro e w8 ⟨rfl, h8, k8⟩; have q8 := at_drop h8 (by decide) 1 o1; rw [R1, R2] at q8)
    | (go_at_call 11; (with_reducible refine q6.mono ?_); rintro e w7 ⟨rfl, h7, k7⟩; have q7 := at_double (h7.keep (.cells #[.int .i64 2, .int .i64 1, .int .i64 2, .string ⟨#[98]⟩] 34)) (by decide) (by decide) (by decide) 0 o0; rw [E1] at q7; have HB := Has.new w7 34 [.int .i64 2, .int .i64 1, .int .i64 2, .string ⟨#[98]⟩])
    | (go_at_call 13; (with_reducible refine q5.mono ?_); rintro e w6 ⟨rfl, h6, k6⟩; have q6 := at_take' h6 (by decide) 4 o4 _ _ T1 T2 _ rfl true rfl; simp only [M2] at q6)
    | (go_at_call 14; (with_reducible refine q4.mono ?_); rintro e w5 ⟨A1, c1, rfl, hA1, h5, k5⟩; have q5 := at_heal0 h5 (by decide) 0; rw [H1] at q5)
    | (go_at_call 10; (with_reducible refine q3.mono ?_); rintro e w4 ⟨rfl, h4, k4⟩; have q4 := at_waits0 h4 (by decide) 0; rw [W1] at q4)
    | (go_at_call 9; (with_reducible refine q2.mono ?_); rintro e w3 ⟨rfl, h3, k3⟩; have q3 := at_cut h3 1 2 o1 o2; rw [C1] at q3)
    | (go_at_call 9; (with_reducible refine q1.mono ?_); rintro e w2 ⟨rfl, h2, k2⟩; have q2 := at_send1 h2 (by decide) (by decide) 2 1 o2 o1 ⟨#[99]⟩ _ _ _ S2)
    | (go_at_call 8; (refine (at_new w).mono ?_); rintro e w1 ⟨rfl, h1⟩; have q1 := at_send2 h1 (by decide) (by decide) 1 2 o1 o2 ⟨#[97]⟩ ⟨#[98]⟩ _ _ _ S1))
  go_ret
  exact ⟨rfl, h12.frame⟩
end Go.Proofs.Ytjlpbhmhnniodaa
