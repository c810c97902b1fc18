/- Parse. -/
import Derived.Test.YtaglginhaofgeaaClkRead
import Derived.Test.YtaglginhaofgeaaPackRef
import Derived.OwnWalk
import Derived.Lib.Bytealg
import Derived.BigQuiet
namespace Go.Proofs.Ytaglginhaofgeaa
open Go.RowKit Go.Shelf
open Ck Pk
namespace Ck
def hexI (c : Int) : Int := if 48 ≤ c ∧ c ≤ 57 then c - 48 else if 97 ≤ c ∧ c ≤ 102 then c - 87 else -1
def unhex : List UInt8 → Option (List UInt8)
  | [] => some []
  | [_] => none
  | x :: y :: r => if hexI x.toNat < 0 ∨ hexI y.toNat < 0 then none else (unhex r).map (UInt8.ofNat (hexI x.toNat * 16 + hexI y.toNat).toNat :: ·)
def parseC (l : List UInt8) : List Dot × Int := match unhex l with | none => ([], 31) | some b => readC b
end Ck
theorem hexI_lt (c : Int) : -1 ≤ hexI c ∧ hexI c < 16 := by
  unfold hexI
  split
  · omega
  · split <;> omega
theorem hexI_all : ∀ x : Fin 256, Lib.indexByte [48, 49, 50, 51, 52, 53, 54, 55, 56, 57, 97, 98, 99, 100, 101, 102] (UInt8.ofNat x.val) = hexI (x.val : Int) := by decide +kernel
theorem hexI_idx (c : Int) (h0 : 0 ≤ c) (h1 : c < 256) : Lib.indexByte [48, 49, 50, 51, 52, 53, 54, 55, 56, 57, 97, 98, 99, 100, 101, 102] c.toNat.toUInt8 = hexI c := by
  have := hexI_all ⟨c.toNat, by omega⟩
  simp only at this
  rw [show ((c.toNat : Nat) : Int) = c by omega] at this
  exact this
theorem unhex_odd : ∀ (l : List UInt8), l.length % 2 ≠ 0 → unhex l = none
  | [], h => by simp at h
  | [_], _ => rfl
  | x :: y :: r, h => by
    unfold unhex
    split
    · rfl
    · rw [unhex_odd r (by simp only [List.length_cons] at h; omega)]; rfl
theorem slIdx_any (w : World) (s : ByteArray) (c : Int) :
    Calls Try.prog 70 #[.string s, .int .u8 c] w fun e w' => e = .returned (.int .i64 (Lib.indexByte s.data.toList c.toNat.toUInt8)) ∧ w' = w := by
  go_enter Try.func70, Try.ntmps70
  go_wp2
  rw [run_callFunc_extern Try.func77 (by kernel_rfl) (by kernel_rfl) (by kernel_rfl) (e := Extern.BytealgIndexByte.indexByte) (by kernel_rfl), Lib.run_indexByteString]
  simp only [Result.andThen]
  rw [Oper.upon_value]
  go_wp2
  go_ret
  exact ⟨rfl, rfl⟩
theorem idx_any (w : World) (c : Int) (h0 : 0 ≤ c) (h1 : c < 256) :
    Calls Try.prog 53 #[.string ⟨#[48, 49, 50, 51, 52, 53, 54, 55, 56, 57, 97, 98, 99, 100, 101, 102]⟩, .int .u8 c] w fun e w' => e = .returned (.int .i64 (hexI c)) ∧ w' = w := by
  rw [← hexI_idx c h0 h1]
  go_enter Try.func53, Try.ntmps53
  go_wp2_with (go_at_call 70; refine (slIdx_any _ _ _).mono ?_; rintro e w' ⟨rfl, rfl⟩)
  go_ret
  exact ⟨rfl, rfl⟩
theorem wraps_i64 (n : Int) (h₀ : 0 ≤ n) (h₁ : n < 2 ^ 63) : IntKind.i64.wrap n = n := IntWalk.i64_in _ (by omega)
theorem or_hex (p q : Int) (hp : 0 ≤ p) (hp1 : p < 16) (hq : 0 ≤ q) (hq1 : q < 16) : bits .or .i64 (p * 16) q = p * 16 + q :=
  bits_join .i64 63 (by decide) wraps_i64 4 (p * 16) q (by omega) (by omega) (by omega) hq (by omega) (by omega)
theorem unhex_drop (l : List UInt8) (i : Nat) (h : i + 1 < l.length) : unhex (l.drop i) = if hexI (l[i]'(by omega)).toNat < 0 ∨ hexI (l[i + 1]).toNat < 0 then none else (unhex (l.drop (i + 2))).map (UInt8.ofNat (hexI (l[i]'(by omega)).toNat * 16 + hexI (l[i + 1]).toNat).toNat :: ·) := by
  rw [List.drop_eq_getElem_cons (by omega), List.drop_eq_getElem_cons h]
  rfl
set_option maxHeartbeats 2000000 in
set_option maxRecDepth 100000 in
theorem parseC_any (w : World) (S : ByteArray) (hl : S.size ≤ 1000000000) :
    Calls Try.prog 18 #[.string S] w fun e w' => (∃ v, e = .returned (.tuple #[v, .int .i64 (parseC S.data.toList).2]) ∧ w'.ownsRow w.heap.size 27 2 v (parseC S.data.toList).1.length ((parseC S.data.toList).1.flatMap Dot.cells)) ∧ Fr w.heap.size [] w w' := by
  obtain ⟨i0, hi, hz0, hz1, hz2⟩ := info_parts infoB
  obtain ⟨l, hL⟩ : ∃ l, S.data.toList = l := ⟨_, rfl⟩
  have hSl : l.length = S.size := by rw [← hL]; simp
  rw [hL]
  obtain ⟨R, hR⟩ : ∃ R, Hid (R = parseC l) := ⟨_, rfl⟩
  rw [← hR.out]
  by_cases hodd : S.size % 2 = 0
  · have hb1 : ((S.size : Int) % 2 != 0) = false := by rw [bne_eq_false_iff_eq]; omega
    have h2 : ((S.size : Int) / 2) = ((S.size / 2 : Nat) : Int) := by omega
    have HSL := Lib.hid hSl
    have HL := Lib.hid hL
    have HO := Lib.hid hodd
    have H2 := Lib.hid h2
    clear hSl hL hodd h2
    go_enter Try.func18, Try.ntmps18
    go_wp2_with (refine wpList_make_own _ (by rfl) _ _ 75 (by rfl) w.heap.size 5 i0 (.int .u8 0) 1 Try.underlying75 hi hz0 hz1 .i64 .i64 _ (S.size / 2) (by rfl) (by rfl) H2.out (by rw [hz2]; omega) (by unfold maxLen; omega) (Nat.le_refl _) ?_; intro w1 h1 g1)
    have hF1 : Fr w.heap.size [] w w1 := (Fr.refl _ _ _).grown g1 (Nat.le_refl _) (by simp)
    go_loopw [4, 5] (fun v i wr => ∃ (k : Nat) (acc : List UInt8), k ≤ S.size ∧ i = .int .i64 (k : Int) ∧ 2 * acc.length = k ∧ unhex l = (unhex (l.drop k)).map (acc ++ ·) ∧ wr.ownsRow w.heap.size 5 1 v acc.length (Lib.byteCells acc) ∧ Fr w.heap.size [] w wr) (fun _ i _ => S.size - (intOf i).toNat)
    case atStart => exact ⟨0, [], by omega, rfl, rfl, by simp, h1, hF1⟩
    case round =>
      obtain ⟨k, acc, hk, rfl, hka, hun, hown, hF⟩ := hrel
      have hsz := hF.size
      have HU := Lib.hid hun
      have HK := Lib.hid hka
      clear hun hka
      by_cases hlt : k < S.size
      · have hlt1 : k + 1 < S.size := by have := HO.out; have := HK.out; omega
        have hx := hexI_lt (S[k].toNat : Int)
        have hy := hexI_lt (S[k + 1].toNat : Int)
        obtain ⟨hx0, hx1⟩ := hx
        obtain ⟨hy0, hy1⟩ := hy
        have hxb : S[k].toNat < 256 := S[k].toNat_lt
        have hyb : S[k + 1].toNat < 256 := S[k + 1].toNat_lt
        have s1 : IntKind.i64.wrap ((k : Int) + 1) = (k : Int) + 1 := IntWalk.i64_in _ (by omega)
        have s2 : (0 : Int) ≤ (k : Int) + 1 := by omega
        have s3 : ((k : Int) + 1).toNat = k + 1 := by omega
        have HD : Hid (unhex (l.drop k) = if hexI S[k].toNat < 0 ∨ hexI (S[k + 1]).toNat < 0 then none else (unhex (l.drop (k + 2))).map (UInt8.ofNat (hexI S[k].toNat * 16 + hexI (S[k + 1]).toNat).toNat :: ·)) := by
          refine Lib.hid ?_
          have := unhex_drop l k (by rw [HSL.out]; exact hlt1)
          simp only [← HL.out, Array.getElem_toList] at this
          rw [← HL.out]
          exact this
        have b0 : (0 : Int) ≤ (k : Int) := by omega
        have b1 : (k : Int) < (S.size : Int) := by omega
        have b2 : (k : Int) + 1 < (S.size : Int) := by omega
        go_upto_region 8 with (fail)
        go_quiet ((go_at_call 53; exact Calls.quiet_of_same (idx_any _ _ (by omega) (by omega))))
        generalize hexI (S[k].toNat : Int) = p at hx0 hx1 HD ⊢
        generalize hexI (S[k + 1].toNat : Int) = q at hy0 hy1 HD ⊢
        obtain ⟨W5, hW5⟩ : ∃ W5, wr.drewN nq = W5 := ⟨_, rfl⟩
        have hF5 : Fr w.heap.size [] w W5 := by rw [← hW5]; exact hF.drewN nq
        have hown5 : W5.ownsRow w.heap.size 5 1 u4 acc.length (Lib.byteCells acc) := by rw [← hW5]; exact hown
        have hsz5 : w.heap.size ≤ W5.heap.size := hF5.size
        rw [hW5]
        clear hW5 hown hF s1
        by_cases hp : p < 0
        · have hpt : decide (p < 0) = true := by simp; exact hp
          have HN : Hid (R = ([], 31)) := by
            refine Lib.hid ?_
            rw [hR.out]
            unfold parseC
            rw [HU.out, HD.out, if_pos (.inl hp)]
            rfl
          go_wp2
          go_ret2
          rw [HN.out]
          exact ⟨⟨_, rfl, World.ownsRow_nil _ _ _ _⟩, hF5⟩
        · by_cases hq : q < 0
          · have hpt : decide (p < 0) = false := by simp; omega
            have hqt : decide (q < 0) = true := by simp; exact hq
            have HN : Hid (R = ([], 31)) := by
              refine Lib.hid ?_
              rw [hR.out]
              unfold parseC
              rw [HU.out, HD.out, if_pos (.inr hq)]
              rfl
            go_wp2
            go_ret2
            rw [HN.out]
            exact ⟨⟨_, rfl, World.ownsRow_nil _ _ _ _⟩, hF5⟩
          · have hp0 : 0 ≤ p := by omega
            have hq0 : 0 ≤ q := by omega
            have hpt : decide (p < 0) = false := by simp; omega
            have hqt : decide (q < 0) = false := by simp; omega
            have hor := or_hex p q hp0 hx1 hq0 hy1
            have hb0 : 0 ≤ p * 16 + q := by omega
            have hb1 : p * 16 + q < 256 := by omega
            have hle : 2 * acc.length ≤ 1000000000 := by have := HK.out; omega
            have hwr : IntKind.u8.wrap (p * 16 + q) = p * 16 + q := by rw [IntKind.wrap_u8]; omega
            go_wp2_with (at_builtin; (refine wpList_append_has (by rfl) (.tmp 37) (.tmp 43) 75 rfl w.heap.size 5 i0 (.int .u8 0) 1 1 Try.underlying75 hi hz0 hz1 hz2 rfl (by decide) _ acc.length _ rfl (hown5.alloc _) W5.heap.size 1 [.int .u8 (p * 16 + q)] rfl (Has.new W5 5 _) rfl (ones_one rfl) (by unfold maxLen; omega) (by omega) (by simp; omega) ?_; intro v' w6 hB6 hg6 hv6))
            rw [byteCells_snoc acc _ hb0 hb1] at hB6
            go_wp2
            go_roundw
            case rel =>
              refine ⟨k + 2, acc ++ [UInt8.ofNat (p * 16 + q).toNat], by omega, by go_num, by rw [List.length_append]; have := HK.out; simp; omega, ?_, by rw [List.length_append]; exact hB6, (hF5.alloc hsz5 _).grown hg6 (by simp; omega) (fun k hk => .inr (hown5.lt k hk).1)⟩
              rw [HU.out, HD.out, if_neg (by omega), Option.map_map]
              congr 1
              funext x
              simp
            case measure => simp [intOf]; omega
      · obtain rfl : k = S.size := by omega
        have HN : Hid (R = readC acc) := by
          refine Lib.hid ?_
          rw [hR.out]
          unfold parseC
          rw [HU.out, List.drop_eq_nil_of_le (by rw [HSL.out]; exact Nat.le_refl _)]
          simp [unhex]
        have hcv := run_string_bytes (P := Try.prog) Try.underlying75 Try.underlying5 Try.underlying9 hown
        have hrd := readC_any wr acc (by have := HK.out; omega)
        have hlt' : ¬ ((S.size : Int) < (S.size : Int)) := by omega
        obtain ⟨T, HT⟩ : ∃ T : ByteArray, Hid (T = ⟨acc.toArray⟩) := ⟨_, rfl⟩
        rw [← HT.out] at hcv
        rw [show (mkS acc : ByteArray) = T from HT.out.symm, ← HN.out] at hrd
        go_wp2_with (go_at_call 16; (refine hrd.mono ?_); rintro e w7 ⟨⟨v7, rfl, g7⟩, f7⟩)
        go_ret2
        exact ⟨⟨_, rfl, row_base g7 hsz⟩, hF.trans (f7.mono hsz (by simp))⟩
  · have hb1 : ((S.size : Int) % 2 != 0) = true := by rw [bne_iff_ne]; omega
    have HN : Hid (R = ([], 31)) := by
      refine Lib.hid ?_
      rw [hR.out]
      unfold parseC
      rw [unhex_odd l (by omega)]
    go_enter Try.func18, Try.ntmps18
    go_wp2
    go_ret2
    rw [HN.out]
    exact ⟨⟨_, rfl, World.ownsRow_nil _ _ _ _⟩, Fr.refl _ _ _⟩
end Go.Proofs.Ytaglginhaofgeaa
