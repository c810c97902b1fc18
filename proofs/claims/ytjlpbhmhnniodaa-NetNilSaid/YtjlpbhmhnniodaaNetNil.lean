/- NetNil: the walk. -/
import Derived.Test.YtjlpbhmhnniodaaNetAwake
namespace Go.Proofs.Ytjlpbhmhnniodaa
open Go.RowKit Go.Maps
open Nt
set_option maxHeartbeats 4000000 in
theorem nil_law (w : World) (a b : Int) (ha : okI a) (hb : okI b) : Calls Try.prog 5 #[.int .i64 a, .int .i64 b] w fun e w' => e = .returned (.bool true) ∧ Fr w.heap.size [] w w' := by
  have T1 : takenS [] [] a = none := rfl
  have T2 : takeS [] [] a = [] := rfl
  have S1 : sendS a b [⟨#[120]⟩] 0 [] = (1, [⟨1, a, b, ⟨#[120]⟩⟩], 1) := rfl
  have J1 : joinB [] a b = true := rfl
  have h0 : At w.heap.size [] w (w.alloc (.cells #[.int .i64 0, .slice none 0 0, .map none] 46)) w.heap.size 0 [] [] := ⟨[w.heap.size], ⟨⟨.slice none 0 0, .map none, Has.new w _ _, ⟨rfl, .inl ⟨rfl, rfl⟩⟩, fun k hk => (by cases hk), .inl ⟨rfl, rfl⟩⟩, by simp, by simp, by simp, by simp⟩, by simp, by simp, (Fr.refl _ _ _).alloc (Nat.le_refl _) _⟩
  go_enter Try.func5, Try.ntmps5
  go_wp2_with (first
    | (go_at_call 9; (with_reducible refine q13.mono ?_); rintro e w14 ⟨rfl, h14, _⟩)
    | (go_at_call 12; (with_reducible refine q12.mono ?_); rintro e w13 ⟨rfl, h13, _⟩; have q13 := at_send1 h13 (by decide) (by decide) a b ha hb ⟨#[120]⟩ _ _ _ S1)
    | (go_at_call 12; (with_reducible refine (joined_nil _ a b).mono ?_); rintro e w12 ⟨rfl, f12⟩; have h12 := (h11.fr f12).1; have q12 := at_joined h12 a b ha hb; rw [J1] at q12)
    | (go_at_call 14; (with_reducible refine (waits_nil _ none 0 0).mono ?_); rintro e w11 ⟨rfl, f11⟩; have h11 := (h10.fr f11).1)
    | (go_at_call 17; (with_reducible refine (lose_none _ a).mono ?_); rintro e w10 ⟨rfl, f10⟩; have h10 := (h9.fr f10).1)
    | (go_at_call 13; (with_reducible refine (heal_none _ none 0 0).mono ?_); rintro e w9 ⟨rfl, f9⟩; have h9 := (h8.fr f9).1)
    | (go_at_call 9; (with_reducible refine (send_none _ a b _ 1 1).mono ?_); rintro e w8 ⟨rfl, f8⟩; have h8 := ((h7.alloc (.cells #[.string ⟨#[120]⟩] 9)).fr f8).1)
    | (go_at_call 15; (with_reducible refine (double_none _ a).mono ?_); rintro e w7 ⟨rfl, f7⟩; have h7 := (h6.fr f7).1)
    | (go_at_call 16; (with_reducible refine (drop_none _ a).mono ?_); rintro e w6 ⟨rfl, f6⟩; have h6 := (h5.fr f6).1)
    | (go_at_call 7; (with_reducible refine (awake_any _).mono ?_); rintro e w5 ⟨rfl, f5⟩; have h5 := ((h3.alloc (.cells #[.int .i64 0, .int .i64 0, .int .i64 0, .string ByteArray.empty] 34)).fr f5).1)
    | (go_at_call 11; (with_reducible refine q3.mono ?_); rintro e w3 ⟨rfl, h3, _⟩)
    | (go_at_call 11; (with_reducible refine (take_none w1 a).mono ?_); rintro e w2 ⟨rfl, f2⟩; have h2 := ((h1.fr f2).1).alloc (.cells #[.int .i64 0, .int .i64 0, .int .i64 0, .string ByteArray.empty] 34); have q3 := at_take' h2 (by decide) a ha _ _ T1 T2 _ rfl false rfl; simp only [zeroMsg] at q3)
    | (go_at_call 10; (with_reducible refine (cut_nil _ a b).mono ?_); rintro e w1 ⟨rfl, f1⟩; have h1 := (h0.fr f1).1))
  go_ret
  exact ⟨rfl, h14.frame⟩
end Go.Proofs.Ytjlpbhmhnniodaa
