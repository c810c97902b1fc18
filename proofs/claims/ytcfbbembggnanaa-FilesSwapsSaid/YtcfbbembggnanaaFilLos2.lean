/- What a file loses. -/
import Derived.Test.YtcfbbembggnanaaFilLose
import Derived.BigQuiet
import Derived.Deep.CutRange
import Derived.Deep.RegionWith
namespace Go.Proofs.Ytcfbbembggnanaa
open Go.RowKit Go.Maps
def loseN (fl : Fl) (p : Int) : Nat := fl.firm + (p % ((fl.bs.length : Int) - fl.firm + 1)).toNat
def loseFl (fl : Fl) (p : Int) : Fl := if fl.firm < fl.bs.length then ⟨fl.bs.take (loseN fl p), loseN fl p⟩ else ⟨fl.bs, fl.bs.length⟩
theorem loseN_le {fl : Fl} (p : Int) (h : fl.firm ≤ fl.bs.length) : loseN fl p ≤ fl.bs.length := by
  unfold loseN
  have h1 := Int.emod_nonneg p (b := (fl.bs.length : Int) - fl.firm + 1) (by omega)
  have h2 := Int.emod_lt_of_pos p (b := (fl.bs.length : Int) - fl.firm + 1) (by omega)
  omega
theorem strV_take {l : List UInt8} {s : ByteArray} (h : strV l = .string s) (n : Nat) : Value.string (s.extract 0 n) = strV (l.take n) := by
  unfold strV at *
  injection h with h
  rw [← h]
  congr 1
  apply ByteArray.ext
  simp
section
variable {w : World}
set_option maxRecDepth 100000 in
set_option maxHeartbeats 2000000 in
theorem lose_any {b bk : Nat} {S : List Nat} {ps : List Int} {x : Key} {fl : Fl} (hb : Has w b 52 (flC x fl)) (hf : fl.firm ≤ fl.bs.length) (hl : fl.bs.length ≤ 140737488355328) (hp : PkIs w bk S ps) (hbS : b ∈ S) (hne : b ≠ bk) :
    Calls Try.prog 34 #[.pointer (some ⟨b, 0, none⟩), .func (.func 31) #[] #[.pointer (some ⟨bk, 0, none⟩)]] w fun e w' =>
      e = .returned (.tuple #[]) ∧ Has w' b 52 (flC x (loseFl fl (pkH ps))) ∧ PkIs w' bk S (if fl.firm < fl.bs.length then ps.tail else ps) ∧ Fr w.heap.size [b, bk] w w' := by
  obtain ⟨⟨A, c, k1, -⟩, hps, -⟩ := id hp
  obtain ⟨s, hs⟩ : ∃ s : ByteArray, strV fl.bs = .string s := ⟨_, rfl⟩
  have c0 : w.cell? ⟨b, 0, none⟩ = some (.string s) := by rw [← hs]; exact hb.cell 0
  have c1 : w.cell? ⟨b, 1, none⟩ = some (.int .i64 (fl.firm : Int)) := hb.cell 1
  have hsz : ∀ W, W.cell? ⟨b, 0, none⟩ = some (strV fl.bs) → Calls Try.prog 30 #[.pointer (some ⟨b, 0, none⟩)] W fun e w' => e = .returned (.int .i64 (fl.bs.length : Int)) ∧ w' = W := fun W h => (size_any W b fl.bs h).mono fun e w' h => ⟨h.1, h.2.symm⟩
  rw [hs] at hsz
  have hw0 : IntKind.i64.wrap ((fl.bs.length : Int) - (fl.firm : Int)) = (fl.bs.length : Int) - fl.firm := IntWalk.i64_in _ (by omega)
  have cN : ∀ n, (w.drewN n).cell? ⟨b, 0, none⟩ = some (.string s) := fun n => by simpa using c0
  by_cases ht : fl.firm < fl.bs.length
  · rw [if_pos ht]
    have hlf : loseFl fl (pkH ps) = ⟨fl.bs.take (loseN fl (pkH ps)), loseN fl (pkH ps)⟩ := if_pos ht
    rw [hlf]
    have hn := next_any hp
    have hok := pkH_ok hps
    obtain ⟨q, hq⟩ : ∃ q, pkH ps = q := ⟨_, rfl⟩
    rw [hq] at hn hok ⊢
    have hw1 : IntKind.i64.wrap ((fl.bs.length : Int) - (fl.firm : Int) + 1) = (fl.bs.length : Int) - fl.firm + 1 := IntWalk.i64_in _ (by omega)
    have hm0 := Int.emod_nonneg q (b := (fl.bs.length : Int) - fl.firm + 1) (by omega)
    have hm1 := Int.emod_lt_of_pos q (b := (fl.bs.length : Int) - fl.firm + 1) (by omega)
    have hm2 : q.tmod ((fl.bs.length : Int) - fl.firm + 1) = q % ((fl.bs.length : Int) - fl.firm + 1) := Int.tmod_eq_emod_of_nonneg hok.1
    have hN := loseN_le q hf
    have hm3 : ((fl.firm : Int) + q % ((fl.bs.length : Int) - fl.firm + 1)) = (loseN fl q : Nat) := by unfold loseN; omega
    go_enter Try.func34, Try.ntmps34
    go_upto_region 0 with fail
    go_quiet ((go_at_call 30; exact Calls.quiet_of_same (hsz _ (cN _))))
    go_upto_region 2 with fail
    have hnW : ∀ n, Calls Try.prog 31 #[.pointer (some ⟨bk, 0, none⟩)] (w.drewN n) fun e w' => e = .returned (.int .i64 q) ∧ PkIs w' bk S ps.tail ∧ w'.cell? ⟨b, 0, none⟩ = some (.string s) ∧ w'.cell? ⟨b, 1, none⟩ = some (.int .i64 (fl.firm : Int)) ∧ w'.frozen? ⟨b, 0, none⟩ = false ∧ Has w' b 52 (flC x fl) ∧ Fr w.heap.size [b, bk] w w' := fun n => by
      have gW : Fr w.heap.size [] w (w.drewN n) := (Fr.refl _ _ _).drewN n
      refine (next_any (hp.fr gW k1.lt (by simp) (by simp))).mono ?_
      rw [hq]
      rintro e w' ⟨r1, r2, r3⟩
      have hb2 : Has w' b 52 (flC x fl) := (hb.fr gW hb.lt (by simp)).one r3 hne
      exact ⟨r1, r2, by rw [← hs]; exact hb2.cell 0, hb2.cell 1, hb2.frozen 0, hb2, (gW.mono (Nat.le_refl _) (by simp)).one r3 (.inl (by simp))⟩
    have hz : ((fl.bs.length : Int) - fl.firm + 1 == 0) = false := by rw [beq_eq_false_iff_ne]; omega
    have hw3 : IntKind.i64.wrap (q % ((fl.bs.length : Int) - fl.firm + 1)) = q % ((fl.bs.length : Int) - fl.firm + 1) := IntWalk.i64_in _ (by omega)
    have hw4 : IntKind.i64.wrap ((loseN fl q : Nat) : Int) = (loseN fl q : Nat) := IntWalk.i64_in _ (by omega)
    have hss : s.size = fl.bs.length := by unfold strV at hs; injection hs with hs; rw [← hs]; exact strV_len _
    have hle : loseN fl q ≤ s.size := by omega
    have hout : ∀ W, Has W b 52 (flC x fl) → PkIs W bk S ps.tail → Fr w.heap.size [b, bk] w W → Has (W.setCell ⟨b, 0, none⟩ (.string (s.extract 0 (loseN fl q)))) b 52 [strV (fl.bs.take (loseN fl q)), .int .i64 (fl.firm : Int), KV x] ∧ PkIs (W.setCell ⟨b, 0, none⟩ (.string (s.extract 0 (loseN fl q)))) bk S ps.tail ∧ Fr w.heap.size [b, bk] w (W.setCell ⟨b, 0, none⟩ (.string (s.extract 0 (loseN fl q)))) := fun W r1 r2 r3 => by
      have := r1.set 0 (.string (s.extract 0 (loseN fl q)))
      refine ⟨?_, r2.fr ((Fr.refl W.heap.size [b] W).setCell (p := ⟨b, 0, none⟩) (.inl (by simp)) _) (by have := r3.size; have := k1.lt; omega) (by simp; omega) (by simpa using hbS), r3.setCell (p := ⟨b, 0, none⟩) (.inl (by simp)) _⟩
      rw [← strV_take hs]
      exact this
    go_cut [14] from 14 to 31 (fun _ wc => Has wc b 52 [strV (fl.bs.take (loseN fl q)), .int .i64 (fl.firm : Int), KV x] ∧ PkIs wc bk S ps.tail ∧ Fr w.heap.size [b, bk] w wc)
    case first =>
      rename_i J K1 hJ hK1
      go_region_with (go_at_call 31; (refine (hnW _).mono ?_); rintro e w2 ⟨rfl, p2, y0, y1, y2, h2, f2⟩)
      all_goals
        refine hK1 _ _ (Met.intro (hJ _ _ ?_))
        repeat apply Exists.intro
        exact ⟨hout _ h2 p2 f2, rfl⟩
    case rest =>
      obtain ⟨h2, p2, f2⟩ := hcut
      have c4 : wc.cell? ⟨b, 0, none⟩ = some (strV (fl.bs.take (loseN fl q))) := h2.cell 0
      have z4 := h2.frozen 1
      have c5 : wc.cell? ⟨b, 1, none⟩ = some (.int .i64 (fl.firm : Int)) := h2.cell 1
      have hs4 := size_any wc b (fl.bs.take (loseN fl q)) c4
      have hln : (fl.bs.take (loseN fl q)).length = loseN fl q := by rw [List.length_take]; omega
      rw [hln] at hs4
      have k4 := h2.set 1 (.int .i64 (loseN fl q : Nat))
      have f4 := f2.setCell (p := ⟨b, 1, none⟩) (.inl (by simp)) (.int .i64 (loseN fl q : Nat))
      have p4 := p2.fr ((Fr.refl wc.heap.size [b] wc).setCell (p := ⟨b, 1, none⟩) (.inl (by simp)) (.int .i64 (loseN fl q : Nat))) (by have := f2.size; have := k1.lt; omega) (by simp; omega) (by simpa using hbS)
      go_wp2_with (go_at_call 30; (refine hs4.mono ?_); rintro e w3 ⟨rfl, rfl⟩)
      exact bodyPost_end (v := .tuple #[]) (by simp [results, Try.results34, go_sem]) rfl ⟨rfl, k4, p4, f4⟩
  · have hlf : loseFl fl (pkH ps) = ⟨fl.bs, fl.bs.length⟩ := if_neg ht
    rw [if_neg ht, hlf]
    have hfl : fl.firm = fl.bs.length := by omega
    have hpos : decide ((fl.bs.length : Int) - fl.firm > 0) = false := by simp; omega
    have z4 := hb.frozen 1
    have k4 := hb.set 1 (.int .i64 (fl.bs.length : Nat))
    have f4 := (Fr.refl w.heap.size [b, bk] w).setCell (p := ⟨b, 1, none⟩) (.inl (by simp)) (.int .i64 (fl.bs.length : Nat))
    have p4 := hp.fr ((Fr.refl w.heap.size [b] w).setCell (p := ⟨b, 1, none⟩) (.inl (by simp)) (.int .i64 (fl.bs.length : Nat))) k1.lt (by simp; omega) (by simpa using hbS)
    go_enter Try.func34, Try.ntmps34
    go_upto_region 0 with fail
    go_quiet ((go_at_call 30; exact Calls.quiet_of_same (hsz _ (cN _))))
    have cN2 := cN nq
    have hs4 := hsz (w.drewN nq) cN2
    have c5 : (w.drewN nq).cell? ⟨b, 1, none⟩ = some (.int .i64 (fl.firm : Int)) := by simpa using c1
    go_wp2_with (go_at_call 30; (refine hs4.mono ?_); rintro e w3 ⟨rfl, rfl⟩)
    refine bodyPost_end (v := .tuple #[]) (by simp [results, Try.results34, go_sem]) rfl ⟨rfl, ?_, ?_, ?_⟩
    · exact k4.fr ((Fr.refl _ [] _).drewN nq) k4.lt (by simp)
    · exact p4.fr ((Fr.refl _ [] _).drewN nq) (by have := k1.lt; simpa using this) (by simp) (by simp)
    · exact f4.drewN nq
end
end Go.Proofs.Ytcfbbembggnanaa
