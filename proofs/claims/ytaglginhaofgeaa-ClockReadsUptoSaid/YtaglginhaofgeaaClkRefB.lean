/- The reference: Bytes, Text, Actor. -/
import Derived.Test.YtaglginhaofgeaaClkRefNorm
import Derived.Test.YtaglginhaofgeaaPackRef
import Derived.Deep.RegionHeld3
namespace Go.Proofs.Ytaglginhaofgeaa
open Go.RowKit Go.Shelf
open Ck Pk
theorem hexD_nat (i : Nat) (h : i < 16) : (((⟨#[48, 49, 50, 51, 52, 53, 54, 55, 56, 57, 97, 98, 99, 100, 101, 102]⟩ : ByteArray)[i]'h).toNat : Int) = ((hexD i).toNat : Int) := by
  have : ∀ i : Fin 16, (((⟨#[48, 49, 50, 51, 52, 53, 54, 55, 56, 57, 97, 98, 99, 100, 101, 102]⟩ : ByteArray)[i.val]'(show i.val < 16 from i.isLt)).toNat : Int) = ((hexD i.val).toNat : Int) := by decide +kernel
  exact this ⟨i, h⟩
theorem mkS_append (a b : List UInt8) : mkS a ++ mkS b = mkS (a ++ b) := by
  apply ByteArray.ext
  rw [ByteArray.data_append]
  simp [mkS]
theorem rActor_any (w : World) (a b c : Int) : Calls Try.prog 37 #[.int .i64 a, .int .i64 b, .int .i64 c] w fun e w' => e = .returned (.int .u64 (actorN a b c)) ∧ w' = w := by
  have e1 : IntKind.u64.wrap (IntKind.u64.wrap ((IntKind.u64.wrap a).tmod 65536 * 281474976710656) + IntKind.u64.wrap ((IntKind.u64.wrap b).tmod 65536 * 4294967296)) = (a % 65536) * 281474976710656 + (b % 65536) * 4294967296 := by
    simp only [IntKind.wrap_u64]
    rw [Int.tmod_eq_emod_of_nonneg (by omega), Int.tmod_eq_emod_of_nonneg (by omega)]
    omega
  go_enter Try.func37, Try.ntmps37
  go_wp2
  go_ret
  refine ⟨ret_val (congrArg (Value.int .u64) ?_), rfl⟩
  unfold actorN
  simp only [IntKind.wrap_u64]
  rw [Int.tmod_eq_emod_of_nonneg (by omega)]
  omega
set_option maxHeartbeats 2000000 in
set_option maxRecDepth 100000 in
theorem rBytes_any (w : World) (v : Value) (ds : List Dot) (hds : ds.length ≤ 100000000) (hok : ∀ d ∈ ds, d.ok) (hI : ClkIn w v ds) :
    Calls Try.prog 35 #[v] w fun e w' => e = .returned (.string ⟨(clkB (normL ds)).toArray⟩) ∧ Fr w.heap.size [] w w' := by
  have hn := rNorm_any w v ds hds hI
  have hL := normL_len ds
  have hokL := (canon_norm ds).ok hok
  obtain ⟨A, c, rfl, hA⟩ := id hI
  obtain ⟨L, hLL⟩ : ∃ L, normL ds = L := ⟨_, rfl⟩
  rw [hLL] at hn hL hokL ⊢
  go_enter Try.func35, Try.ntmps35
  go_upto_region 2 with (go_at_call 25; (with_reducible refine hn.mono ?_); rintro e w1 ⟨⟨v1, rfl, g1⟩, f1⟩)
  have k1 := clkIn_own g1
  obtain ⟨A1, c1, rfl⟩ := own_len1 g1
  clear g1 hn
  go_upto_region 3 with (go_at_call 60; (refine (rnum_at w1 _ L.length (by first | rfl | (rw [IntKind.wrap_u64]; omega)) (by omega)).mono ?_); rintro e w2 ⟨rfl, f2⟩)
  have hF2 := f1.trans (f2.mono f1.size (by simp))
  have k2 := clkIn_fr k1 f2
  obtain ⟨S0, hS0⟩ : ∃ S0, Hid (S0 = mkS (numB L.length)) := ⟨_, rfl⟩
  rw [show (⟨(numB L.length).toArray⟩ : ByteArray) = S0 from hS0.out.symm]
  clear k1 f1 f2
  go_wp2
  go_loopw [3, 4] (fun s i wr => ∃ (k : Nat) (S : ByteArray), k ≤ L.length ∧ i = .int .i64 (k : Int) ∧ s = .string S ∧ S.size ≤ 10 + 20 * k ∧ Hid (S = mkS (numB L.length ++ (L.take k).flatMap dotB)) ∧ ClkIn wr (.slice A1 L.length c1) L ∧ Fr w.heap.size [] w wr) (fun _ i _ => L.length - (intOf i).toNat)
  case atStart => exact ⟨0, S0, Nat.zero_le _, rfl, rfl, by rw [hS0.out, mkS_size]; exact numB_len10 (by omega), Lib.hid (by rw [hS0.out]; simp), k2, hF2⟩
  case round =>
    clear k2 hF2
    obtain ⟨k, S, hk, rfl, rfl, hSs, hS, hI, hF⟩ := hrel
    by_cases hlt : k < L.length
    · obtain ⟨A2, c2, he, hA2⟩ := id hI
      injection he with he1 _ he2
      subst he1 he2
      obtain ⟨blk, o, rfl, hblk, hcell⟩ := ARow.at (cells := Dot.cells) (c := 2) hA2 (fun _ => rfl) (by decide) k hlt
      have a0 := hcell 0 _ rfl
      have a1 := hcell 1 _ rfl
      simp only [Nat.add_zero] at a0
      have htk : (L.take (k + 1)).flatMap dotB = (L.take k).flatMap dotB ++ dotB L[k] := by rw [List.take_succ_eq_append_getElem hlt, List.flatMap_append]; simp
      have hxk := hokL L[k] (List.getElem_mem hlt)
      obtain ⟨x, hx⟩ : ∃ x, L[k] = x := ⟨_, rfl⟩
      rw [hx] at a0 a1 htk hxk
      have HTK := Lib.hid htk
      obtain ⟨hxa, hxn⟩ := hxk
      clear htk hx hcell hA2
      have hi1 : (k : Int) < (L.length : Int) := by omega
      have hi0 : (0 : Int) ≤ (k : Int) := by omega
      have la := numB_len10 hxa
      have lb := numB_len10 hxn
      have n1 : ¬ (9223372036854775807 < S.size + (numB x.a).length) := by omega
      have n2 : ¬ (9223372036854775807 < S.size + (numB x.a).length + (numB x.n).length) := by omega
      have n3 : (S ++ mkS (numB x.a) ++ mkS (numB x.n)).size ≤ 10 + 20 * (k + 1) := by rw [ByteArray.size_append, ByteArray.size_append, mkS_size, mkS_size]; omega
      have N3 := Lib.hid n3
      clear n3 la lb
      have hrd : ∀ W, Fr wr.heap.size [] wr W → W.cell? ⟨blk, o + k * 2, none⟩ = some (.int .u64 (x.a : Int)) ∧ W.cell? ⟨blk, o + k * 2 + 1, none⟩ = some (.int .u64 (x.n : Int)) := fun W h => ⟨(h.cell (p := ⟨blk, o + k * 2, none⟩) hblk (by simp)).trans a0, (h.cell (p := ⟨blk, o + k * 2 + 1, none⟩) hblk (by simp)).trans a1⟩
      go_upto_region 6 with (fail)
      refine wp_region_class (fun W => Fr wr.heap.size [] wr W) (by kernel_rfl) (by kernel_rfl) ((Fr.refl _ _ _).drew) ?_
      repeat
        first
          | (refine wpQuiet_skip (by rfl) ?_; try simp only [Act.put, List.setIfInBounds_toArray, List.set_cons_zero, List.set_cons_succ])
          | (refine wpQuiet_take (by rfl) ?_
             apply Exists.intro
             refine ⟨fun W hW => ?_, ?_⟩
             · first
                 | ((obtain ⟨q0, q1⟩ := hrd _ hW; go_simp; exact rfl); done)
                 | ((obtain ⟨q0, q1⟩ := hrd _ hW; go_simp); done)
                 | (go_simp; done)
                 | (go_simp; exact rfl)
                 | (go_simp; (try refine ⟨rfl, ?_⟩); (go_at_call 60; (first | (with_reducible refine (rNum_any _ x.a hxa).mono fun e w' h => ?_) | (with_reducible refine (rNum_any _ x.n hxn).mono fun e w' h => ?_)); exact ⟨h.1, hW.trans (h.2.mono hW.size (by simp))⟩); done)
             try simp only [Act.put, List.setIfInBounds_toArray, List.set_cons_zero, List.set_cons_succ])
      refine wpQuiet_nil ?_
      intro wq hq
      go_wp2
      go_roundw
      case rel =>
        refine ⟨k + 1, _, by omega, by go_num, rfl, N3.out, Lib.hid ?_, clkIn_fr hI hq, hF.trans (hq.mono hF.size (by simp))⟩
        rw [HTK.out, hS.out]
        show mkS _ ++ mkS (numB x.a) ++ mkS (numB x.n) = _
        rw [mkS_append, mkS_append]
        unfold dotB
        simp only [List.append_assoc]
      case measure => simp [intOf]; omega
    · have hge : ¬ ((k : Int) < L.length) := by omega
      go_wp2
      go_ret
      refine ⟨ret_val (congrArg Value.string ?_), hF⟩
      rw [hS.out, List.take_of_length_le (by omega)]
      rfl
set_option maxHeartbeats 2000000 in
set_option maxRecDepth 100000 in
theorem rText_is (w : World) (v : Value) (ds : List Dot) (hds : ds.length ≤ 100000000) (hok : ∀ d ∈ ds, d.ok) (hI : ClkIn w v ds) :
    Calls Try.prog 36 #[v] w fun e w' => e = .returned (.string ⟨(hexB (clkB (normL ds))).toArray⟩) ∧ Fr w.heap.size [] w w' := by
  obtain ⟨i0, hi, hz0, hz1, hz2⟩ := info_parts infoB
  have hb := rBytes_any w v ds hds hok hI
  have hlb := clkB_len (out := normL ds) (by have := normL_len ds; omega) ((canon_norm ds).ok hok)
  obtain ⟨l, hl⟩ : ∃ l, clkB (normL ds) = l := ⟨_, rfl⟩
  rw [hl] at hb hlb ⊢
  obtain ⟨A, c, rfl, hA⟩ := id hI
  obtain ⟨S, hS⟩ : ∃ S : ByteArray, Hid (S = mkS l) := ⟨_, rfl⟩
  have hSl : S.size = l.length := by rw [hS.out]; exact mkS_size l
  rw [show (⟨l.toArray⟩ : ByteArray) = S from hS.out.symm] at hb
  obtain ⟨T, HT⟩ : ∃ T : ByteArray, Hid (T = ⟨(hexB l).toArray⟩) := ⟨_, rfl⟩
  rw [← HT.out]
  go_enter Try.func36, Try.ntmps36
  go_upto_region 3 with (go_at_call 35; (with_reducible refine hb.mono ?_); rintro e w1 ⟨rfl, f1⟩)
  have HSL := Lib.hid hSl
  clear hb hSl
  go_wp2
  go_loopw [5, 6] (fun b i wr => ∃ k : Nat, k ≤ S.size ∧ i = .int .i64 (k : Int) ∧ wr.ownsRow w.heap.size 5 1 b (2 * k) (Lib.byteCells (hexB (l.take k))) ∧ Fr w.heap.size [] w wr) (fun _ i _ => S.size - (intOf i).toNat)
  case atStart => exact ⟨0, Nat.zero_le _, rfl, World.ownsRow_nil _ _ _ _, f1⟩
  case round =>
    clear f1
    obtain ⟨k, hk, rfl, hown, hF⟩ := hrel
    have hsz := hF.size
    by_cases hlt : k < S.size
    · have hlt2 : k < l.length := by rw [← HSL.out]; exact hlt
      have hxk : Hid ((S[k].toNat) = (l[k]'hlt2).toNat) := by
        refine Lib.hid ?_
        have := mkS_get l k (by rw [mkS_size]; exact hlt2)
        simp only [hS.out, this]
      have b0 : (0 : Int) ≤ (k : Int) := by omega
      have b1 : (k : Int) < (S.size : Int) := by omega
      have x1 : S[k].toNat < 256 := S[k].toNat_lt
      obtain ⟨p, hp⟩ : ∃ p : Nat, Hid (S[k].toNat / 16 = p) := ⟨_, Lib.hid rfl⟩
      obtain ⟨q, hq⟩ : ∃ q : Nat, Hid (S[k].toNat % 16 = q) := ⟨_, Lib.hid rfl⟩
      have p1 : (p : Int) < 16 := by have := hp.out; omega
      have q1 : (q : Int) < 16 := by have := hq.out; omega
      have p0 : (0 : Int) ≤ (p : Int) := by omega
      have q0 : (0 : Int) ≤ (q : Int) := by omega
      have t1 : (S[k].toNat : Int).tdiv 16 = (p : Int) := by rw [Int.tdiv_eq_ediv_of_nonneg (by omega)]; have := hp.out; omega
      have t2 : (S[k].toNat : Int).tmod 16 = (q : Int) := by rw [Int.tmod_eq_emod_of_nonneg (by omega)]; have := hq.out; omega
      have t3 : (S[k].toNat : Int) / 16 = (p : Int) := by have := hp.out; omega
      have t4 : (S[k].toNat : Int) % 16 = (q : Int) := by have := hq.out; omega
      have t5 : IntKind.u8.wrap (p : Int) = (p : Int) := by rw [IntKind.wrap_u8]; omega
      have t6 : IntKind.u8.wrap (q : Int) = (q : Int) := by rw [IntKind.wrap_u8]; omega
      have p2 : p < 16 := by omega
      have q2 : q < 16 := by omega
      have hle : 2 * k ≤ 10000000000000 := by omega
      go_wp2
      go_region_held3 (fun _ => True) (exact trivial)
        (first | (refine step_append_has (by rfl) (.tmp 15) (.tmp 28) 75 (by rfl) w.heap.size 5 i0 (.int .u8 0) 1 1 Try.underlying75 hi hz0 hz1 hz2 rfl (by decide) u5 (2 * k) _ (by rfl) (hown.alloc _) wr.heap.size 2 _ (by rfl) (Has.new _ _ [_, _]) rfl (fun u hu => by simp at hu; rcases hu with rfl | rfl <;> rfl) (by unfold maxLen; omega) (by omega) (by simp; omega) ?_; intro v' w3 hown1 hg1 _))
      all_goals
        go_wp2
        go_roundw
        case rel =>
          refine ⟨k + 1, by omega, by go_num, ?_, (hF.alloc (by omega) _).drew.grown hg1 (by simp; omega) (fun b hb => Or.inr (by have := (hown.lt b hb).1; omega))⟩
          have e1 : Lib.byteCells (hexB (l.take (k + 1))) = Lib.byteCells (hexB (l.take k)) ++ [.int .u8 ((hexD p).toNat : Int), .int .u8 ((hexD q).toNat : Int)] := by
            rw [hexB_take l k hlt2, ← hp.out, ← hq.out, hxk.out]
            simp [Lib.byteCells]
          rw [e1, ← hexD_nat p p2, ← hexD_nat q q2]
          exact hown1
        case measure => simp [intOf]; omega
    · obtain rfl : k = S.size := by omega
      have hk2 : S.size = l.length := HSL.out
      rw [hk2, List.take_of_length_le (Nat.le_refl _)] at hown
      have hcv := run_string_bytes (P := Try.prog) Try.underlying75 Try.underlying5 Try.underlying9 hown
      rw [← HT.out] at hcv
      have hge : ¬ ((S.size : Int) < (S.size : Int)) := by omega
      clear hk2
      go_wp2
      go_ret
      exact ⟨rfl, hF⟩
end Go.Proofs.Ytaglginhaofgeaa
