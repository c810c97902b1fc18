/- The binary search. -/
import Derived.Test.YtcemlacfldonlaaClkSpec
namespace Go.Proofs.Ytcemlacfldonlaa
open Go.RowKit
open Ck
theorem dot_cells {w : World} {N : Nat} {A : Option Addr} {us : List Dot} (h : ARow w N A (us.flatMap Dot.cells)) (k : Nat) (hk : k < us.length) : ∃ blk o, A = some ⟨blk, o, none⟩ ∧ blk < N ∧
    w.cell? ⟨blk, o + k * 2, none⟩ = some (.int .u64 (us[k].a : Int)) ∧ w.cell? ⟨blk, o + k * 2 + 1, none⟩ = some (.int .u64 (us[k].n : Int)) := by
  obtain ⟨blk, o, hA, hb, hc⟩ := h.at (c := 2) (fun _ => rfl) (by decide) k hk
  exact ⟨blk, o, hA, hb, hc 0 _ rfl, hc 1 _ rfl⟩
namespace Ck
def Sorted (l : List Dot) : Prop := ∀ i j (hi : i < l.length) (hj : j < l.length), i < j → l[i].a < l[j].a
/-- The place of an actor. -/
structure At (l : List Dot) (y i : Nat) : Prop where
  le : i ≤ l.length
  lo : ∀ t (h : t < l.length), t < i → l[t].a < y
  hi : ∀ t (h : t < l.length), i ≤ t → y ≤ l[t].a
/-- Is the actor of that place this one? -/
def hasD (l : List Dot) (y i : Nat) : Bool := decide ((l[i]?.map Dot.a) = some y)
end Ck
set_option maxHeartbeats 2000000 in
theorem bs_any (w : World) (A : Option Addr) (c : Nat) (l : List Dot) (y : Nat) (hA : ARow w w.heap.size A (l.flatMap Dot.cells)) (hl : l.length ≤ 8796093022208) (hs : Sorted l) :
    Calls Try.prog 36 #[.slice A l.length c, .int .u64 (y : Int), .func (.func 37) #[] #[]] w fun e w' => (∃ i, At l y i ∧ e = .returned (.tuple #[.int .i64 (i : Int), .bool (hasD l y i)])) ∧ Fr w.heap.size [] w w' := by
  go_enter Try.func36, Try.ntmps36
  go_wp2
  go_loopw [9, 10] (fun i j wr => ∃ p q : Nat, i = .int .i64 (p : Int) ∧ j = .int .i64 (q : Int) ∧ p ≤ q ∧ q ≤ l.length ∧ (∀ t (h : t < l.length), t < p → l[t].a < y) ∧ (∀ t (h : t < l.length), q ≤ t → y ≤ l[t].a) ∧ Fr w.heap.size [] w wr) (fun i j _ => (intOf j).toNat - (intOf i).toNat)
  case atStart => exact ⟨0, l.length, rfl, rfl, by omega, by omega, fun t h h2 => by omega, fun t h h2 => by omega, Fr.refl _ _ _⟩
  case round =>
    obtain ⟨p, q, rfl, rfl, hpq, hq, hlo, hhi, hF⟩ := hrel
    by_cases hlt : p < q
    · have hlti : (p : Int) < (q : Int) := by omega
      obtain ⟨m, hm⟩ : ∃ m : Nat, m = (p + q) / 2 := ⟨_, rfl⟩
      have hmi : ((p : Int) + (q : Int)) / 2 = (m : Int) := by omega
      have hml : m < l.length := by omega
      have hmli : (m : Int) < l.length := by omega
      have hpm : p ≤ m := by omega
      have hmq : m < q := by omega
      clear hm
      obtain ⟨blk, o, rfl, hb, d0, d1⟩ := dot_cells (hA.fr hF (Nat.le_refl _) (by simp)) m hml
      obtain ⟨x, hx⟩ : ∃ x, l[m] = x := ⟨_, rfl⟩
      rw [hx] at d0 d1
      have hcall := mergeF_any wr x y
      by_cases hc : x.a < y
      · rw [show cmpN x.a y = -1 by unfold cmpN; rw [if_pos hc]] at hcall
        go_wp2_with (go_at_call 37; (refine hcall.mono ?_); rintro e w1 ⟨rfl, f1⟩)
        go_roundw
        case rel => exact ⟨m + 1, q, by go_num, rfl, by omega, hq, fun t h h2 => by
          rcases Nat.lt_or_ge t m with h3 | h3
          · rcases Nat.lt_or_ge t p with h4 | h4
            · exact hlo t h h4
            · have := hs t m h hml h3; rw [hx] at this; omega
          · obtain rfl : t = m := by omega
            rw [hx]; exact hc, hhi, hF.trans (f1.mono hF.size (by simp))⟩
        case measure => simp [intOf]; omega
      · obtain ⟨r, hr, hr0⟩ : ∃ r : Int, cmpN x.a y = r ∧ ¬ r < 0 := ⟨_, rfl, by unfold cmpN; rw [if_neg hc]; split <;> decide⟩
        rw [hr] at hcall
        go_wp2_with (go_at_call 37; (refine hcall.mono ?_); rintro e w1 ⟨rfl, f1⟩)
        go_roundw
        case rel => exact ⟨p, m, rfl, by go_num, by omega, by omega, hlo, fun t h h2 => by
          rcases Nat.lt_or_ge m t with h3 | h3
          · have := hs m t hml h h3; rw [hx] at this; omega
          · obtain rfl : t = m := by omega
            rw [hx]; omega, hF.trans (f1.mono hF.size (by simp))⟩
        case measure => simp [intOf]; omega
    · have hlti : ¬ (p : Int) < (q : Int) := by omega
      obtain rfl : p = q := by omega
      have hAt : At l y p := ⟨hq, hlo, hhi⟩
      by_cases hpl : p < l.length
      · have hpli : (p : Int) < l.length := by omega
        obtain ⟨blk, o, rfl, hb, d0, d1⟩ := dot_cells (hA.fr hF (Nat.le_refl _) (by simp)) p hpl
        have hlp : l[p]?.map Dot.a = some l[p].a := by rw [List.getElem?_eq_getElem hpl]; rfl
        obtain ⟨x, hx⟩ : ∃ x, l[p] = x := ⟨_, rfl⟩
        have hyx : y ≤ x.a := by rw [← hx]; exact hhi p hpl (Nat.le_refl _)
        rw [hx] at d0 d1 hlp
        have hcall := mergeF_any wr x y
        by_cases hc : x.a = y
        · subst hc
          rw [show cmpN x.a x.a = 0 by unfold cmpN; rw [if_neg (by omega), if_neg (by omega)]] at hcall
          go_wp2_with (go_at_call 37; (refine hcall.mono ?_); rintro e w1 ⟨rfl, f1⟩)
          refine bodyPost_ret (v := .tuple #[.int .i64 (p : Int), .bool true]) (by simp [results, Try.results36, go_sem]) rfl ⟨⟨p, hAt, by rw [show hasD l x.a p = true by unfold hasD; rw [hlp]; simp]⟩, hF.trans (f1.mono hF.size (by simp))⟩
        · rw [show cmpN x.a y = 1 by unfold cmpN; rw [if_neg (by omega), if_pos (by omega)]] at hcall
          go_wp2_with (go_at_call 37; (refine hcall.mono ?_); rintro e w1 ⟨rfl, f1⟩)
          refine bodyPost_ret (v := .tuple #[.int .i64 (p : Int), .bool false]) (by simp [results, Try.results36, go_sem]) rfl ⟨⟨p, hAt, by rw [show hasD l y p = false by unfold hasD; rw [hlp]; simp [hc]]⟩, hF.trans (f1.mono hF.size (by simp))⟩
      · have hpli : ¬ (p : Int) < l.length := by omega
        have hlp : l[p]?.map Dot.a = none := by rw [List.getElem?_eq_none (by omega)]; rfl
        go_wp2
        refine bodyPost_ret (v := .tuple #[.int .i64 (p : Int), .bool false]) (by simp [results, Try.results36, go_sem]) rfl ⟨⟨p, hAt, by rw [show hasD l y p = false by unfold hasD; rw [hlp]; simp]⟩, hF⟩
end Go.Proofs.Ytcemlacfldonlaa
