/- begin, New, and Write: parts are written into a hash. -/
import Derived.Test.YtpboclafoccfnaaDoorShaFeed
import Derived.Test.YtpboclafoccfnaaDoorShaRef
import Derived.Test.YtpboclafoccfnaaDoorShaPad
import Derived.Lib.Hide
namespace Go.Proofs.YtpboclafoccfnaaDoor
open Go.RowKit
open Sha
theorem info31 : (Tryd.prog.info? 31).map (·.size) = some 8 := by kernel_rfl
set_option maxHeartbeats 1000000 in
theorem begin_any (w : World) : Calls Tryd.prog 21 #[] w fun e w' => e = .returned (.agg St.start.vals.toArray) ∧ Fr w.heap.size [] w w' := by
  go_enter Tryd.func21, Tryd.ntmps21
  go_wp2
  exact bodyPost_ret (v := .agg St.start.vals.toArray) (by simp [results, Tryd.results21, go_sem]; rfl) rfl ⟨rfl, (Fr.refl _ _ _).alloc (Nat.le_refl _) _⟩
set_option maxHeartbeats 1000000 in
theorem new_any (w : World) : Calls Tryd.prog 14 #[] w fun e w' => e = .returned (.pointer (some ⟨w.heap.size, 0, none⟩)) ∧ HashIs w' w.heap.size [] ∧ Fr w.heap.size [] w w' ∧ w'.heap.size = w.heap.size + 1 := by
  go_enter Tryd.func14, Tryd.ntmps14
  go_wp2
  go_ret
  exact ⟨rfl, .inr ⟨rfl, Has.new w 34 hzero⟩, (Fr.refl _ _ _).alloc (Nat.le_refl _) _, by simp⟩
set_option maxHeartbeats 1000000 in
set_option maxRecDepth 100000 in
theorem write_any (w : World) (g : Nat) (a : List Int) (A : Option Addr) (c : Nat) (ps : List ByteArray) (h : HashIs w g a) (hp : Parts w g A ps) (hK : Kst w) (hn : ps.length ≤ 140737488355328)
    (hsz : a.length + (cat ps).length ≤ 2000000) :
    Calls Tryd.prog 12 #[.pointer (some ⟨g, 0, none⟩), .slice A ps.length c] w fun e w' => e = .returned (.tuple #[]) ∧ HashIs w' g (a ++ cat ps) ∧ Fr w.heap.size [g] w w' := by
  have hg0 := h.ne hK
  have hgl := h.lt
  rcases h with ⟨r, hr, h⟩ | ⟨rfl, h⟩
  focus
    have c8 : w.cell? ⟨g, 8, none⟩ = some (.bool true) := h.cell 8
    go_enter Tryd.func12, Tryd.ntmps12
    go_wp2
    obtain ⟨w2, hw2⟩ : ∃ w2, w = w2 := ⟨_, rfl⟩
    have h2 : Has w2 g 34 (hcells a (a.length / 64) a.length r) := by rw [← hw2]; exact h
    have hF2 : Fr w.heap.size [g] w w2 := by rw [← hw2]; exact Fr.refl _ _ _
    refine wp_world hw2 ?_
    clear hw2 c8 h
  rotate_left
  focus
    have c8 : w.cell? ⟨g, 8, none⟩ = some (.bool false) := h.cell 8
    have z8 := h.frozen 8
    obtain ⟨r, hr0⟩ : ∃ r : ByteArray, Hid (r = ⟨#[]⟩) := ⟨_, rfl⟩
    obtain ⟨a, ha0⟩ : ∃ a : List Int, Hid (a = []) := ⟨_, rfl⟩
    have hr : bl r = List.drop (64 * (a.length / 64)) a := by rw [hr0.out, ha0.out]; rfl
    have hsz : a.length + (cat ps).length ≤ 2000000 := by rw [ha0.out]; exact hsz
    rw [← ha0.out]
    go_enter Tryd.func12, Tryd.ntmps12
    go_wp2_with (first
      | (go_at_call 21; refine (begin_any _).mono ?_; rintro e w1 ⟨rfl, hf1⟩; have h1 := h.fr hf1 hgl (by simp))
      | ((with_reducible refine wpList_store_has rfl 31 (.tmp 17) (.tmp 15) rfl g 0 34 _ St.start.vals rfl rfl h1 ?_ ?_ ?_ ?_); (show 0 + 8 ≤ 11; omega); (exact info31); (exact ints_oneCell _ _); intro w3 h3 o3; have d8 : w3.cell? ⟨g, 8, none⟩ = some (.bool false) := h3.cell 8; have y8 := h3.frozen 8))
    obtain ⟨w2, hw2⟩ : ∃ w2, w3.setCell ⟨g, 8, none⟩ (.bool true) = w2 := ⟨_, rfl⟩
    have h2 : Has w2 g 34 (hcells a (a.length / 64) a.length r) := by
      rw [← hw2, ha0.out, hr0.out]; exact h3.set 8 (.bool true)
    have hF2 : Fr w.heap.size [g] w w2 := by
      rw [← hw2]; exact ((Fr.refl _ _ _).trans (hf1.mono (Nat.le_refl _) (by simp))).one o3 (Or.inl (by simp)) |>.setCell (Or.inl (by simp)) _
    refine wp_world hw2 ?_
    clear hw2 c8 z8 h h1 h3 hf1 o3 d8 y8
  all_goals
    have hK2 := hK.fr hF2 (by omega) (by simpa using hg0.symm)
    clear hK
    go_loopw [22, 5] (fun v _ wr => ∃ k : Nat, k ≤ ps.length ∧ v = .int .i64 (k : Int) ∧ (∃ r, bl r = (a ++ cat (ps.take k)).drop (64 * ((a ++ cat (ps.take k)).length / 64)) ∧ Has wr g 34 (hcells (a ++ cat (ps.take k)) ((a ++ cat (ps.take k)).length / 64) (a ++ cat (ps.take k)).length r)) ∧ Fr w.heap.size [g] w wr ∧ Kst wr) (fun v _ _ => ps.length - (intOf v).toNat)
    case atStart => exact ⟨0, by omega, rfl, ⟨r, by simpa [cat] using hr, by simpa [cat] using h2⟩, hF2, hK2⟩
    case round =>
      clear h2 hr hF2 hK2
      obtain ⟨k, hk, rfl, ⟨r1, hr1, h1⟩, hF, hK⟩ := hrel
      by_cases hlt : k < ps.length
      · obtain ⟨b, hb⟩ : ∃ b, Hid (b = a ++ cat (ps.take k)) := ⟨_, rfl⟩
        rw [← hb.out] at hr1 h1
        obtain ⟨p, hpk⟩ : ∃ p, Hid (p = ps[k]'hlt) := ⟨ps[k]'hlt, rfl⟩
        obtain ⟨bb, oo, hA, hbs, hbg, hcp⟩ := hp.at k hlt
        have hpc : wr.cell? ⟨bb, oo + k, none⟩ = some (.string p) := by
          rw [hF.cell (p := ⟨bb, oo + k, none⟩) hbs (by simpa using hbg), hcp, hpk.out]
        have hbl : b.length + p.size ≤ 2000000 := by
          have h1 := cat_take_le ps (k + 1)
          rw [cat_take _ _ hlt, List.length_append] at h1
          rw [hb.out, List.length_append, hpk.out, ← bl_len]; omega
        have hrs : r1.size < 64 := by
          have := congrArg List.length hr1
          rw [bl_len, List.length_drop] at this; omega
        have c10 : wr.cell? ⟨g, 10, none⟩ = some (.int .u64 (b.length : Int)) := h1.cell 10
        have c9 : wr.cell? ⟨g, 9, none⟩ = some (.string r1) := h1.cell 9
        have z10 := h1.frozen 10
        go_wp2
        obtain ⟨b', hb'⟩ : ∃ b', Hid (b' = b ++ bl p) := ⟨_, rfl⟩
        have hlb : b'.length = b.length + p.size := by rw [hb'.out, List.length_append, bl_len]
        obtain ⟨w4, hw4⟩ : ∃ w4, wr.setCell ⟨g, 10, none⟩ (.int .u64 ((b.length : Int) + (p.size : Int))) = w4 := ⟨_, rfl⟩
        have h4 : Has w4 g 34 (hcells b' (b.length / 64) b'.length r1) := by
          have h5 := h1.set 10 (.int .u64 ((b.length : Int) + (p.size : Int)))
          rw [← hw4]
          have e1 : fs b' (b.length / 64) = fs b (b.length / 64) := by rw [hb'.out]; exact fs_app _ _ _ (by omega)
          have e2 : (b'.length : Int) = (b.length : Int) + (p.size : Int) := by omega
          unfold hcells
          rw [e1, e2]
          exact h5
        have hF4 : Fr w.heap.size [g] w w4 := by rw [← hw4]; exact hF.setCell (Or.inl (by simp)) _
        have hK4 : Kst w4 := by rw [← hw4]; exact hK.fr ((Fr.refl wr.heap.size [g] wr).setCell (Or.inl (by simp)) _) hK.2 (by simpa using hg0.symm)
        have hq4 : bl (r1 ++ p) = b'.drop (64 * (b.length / 64)) := by
          rw [bl_app, hr1, hb'.out, List.drop_append_of_le_length (by omega)]
        refine wp_world hw4 ?_
        have Hlb := Lib.hid hlb
        have hlb2 : b'.length ≤ 2000000 := by omega
        have hgs : g < wr.heap.size := h1.lt
        clear hw4 h1 hF hK hr1 hpc c10 c9 z10 hlb hA hcp
        go_loopw [5] (fun v wr => ∃ (m : Nat) (q : ByteArray), v = .string q ∧ bl q = b'.drop (64 * m) ∧ 64 * m ≤ b'.length ∧ Has wr g 34 (hcells b' m b'.length r1) ∧ Fr w.heap.size [g] w wr ∧ Kst wr) (fun v _ => (strOf v).size)
        case atStart => exact ⟨b.length / 64, r1 ++ p, rfl, hq4, by have := Hlb.out; omega, h4, hF4, hK4⟩
        case round =>
          clear h4 hq4 hF4 hK4
          obtain ⟨m, q, rfl, hq, hm, h1, hF, hK⟩ := hrel
          have hqs : q.size = b'.length - 64 * m := by rw [← bl_len, hq, List.length_drop]
          have hqb : q.size ≤ 2000000 := by omega
          by_cases hlt2 : 64 ≤ q.size
          · have Hqs := Lib.hid hqs
            have Hq := Lib.hid hq
            clear hqs hq
            go_wp2
            refine region_still_tail 5 (by kernel_rfl) (by kernel_rfl) ?_
            intro W hW
            have h2 : Has W g 34 (hcells b' m b'.length r1) := by rw [hW]; exact h1
            have hF2 : Fr w.heap.size [g] w W := by rw [hW]; exact hF.drew
            have hK2 : Kst W := by rw [hW]; exact hK
            clear hW h1 hF hK
            simp only [List.take_succ_cons, List.take_zero, List.drop_succ_cons, List.drop_zero]
            repeat (refine wpStill_step (fun K hK => ?_); go_simp; refine hK _ ?_; clear hK K)
            refine wpStill_nil ?_
            have he : (q.extract 0 64).size = 64 := by rw [ByteArray.size_extract]; omega
            have he' := Lib.hid he
            clear he
            go_wp2_with (go_at_call 22; refine (feed_any W g (fs b' m) [.bool true, .string r1, .int .u64 (b'.length : Int)] (q.extract 0 64) he'.out h2 hK2).mono ?_; rintro e w5 ⟨rfl, h5, hf5⟩)
            have hF5 := hF2.trans (hf5.mono hF2.size (by simp))
            have hK5 := hK2.fr hf5 hK2.2 (by simpa using hg0.symm)
            go_roundw
            case rel =>
              refine ⟨m + 1, q.extract 64 q.size, rfl, ?_, ?_, ?_, hF5, hK5⟩
              · rw [bl_extract, Hq.out, List.drop_drop, List.take_of_length_le (by rw [List.length_drop]; have := Hqs.out; omega)]
                congr 1
              · have := Hqs.out; omega
              · have e : feed (fs b' m) (bl (q.extract 0 64)) = fs b' (m + 1) := by rw [bl_extract, List.drop_zero, Hq.out]; rfl
                rw [e] at h5
                exact h5
            case measure =>
              have e : (q.extract 64 q.size).size = q.size - 64 := by rw [ByteArray.size_extract]; omega
              show (q.extract 64 q.size).size < q.size
              omega
          · have hmq : m = b'.length / 64 := by omega
            have c9 : wr.cell? ⟨g, 9, none⟩ = some (.string r1) := h1.cell 9
            have z9 := h1.frozen 9
            have Hmq := Lib.hid hmq
            have Hq := Lib.hid hq
            have Hqs := Lib.hid hqs
            clear hmq hq hqs
            go_wp2
            go_roundw
            case rel =>
              have eb : a ++ cat (ps.take (k + 1)) = b' := by rw [cat_take _ _ hlt, hb'.out, hb.out, hpk.out, List.append_assoc]
              refine ⟨k + 1, by omega, by go_num, ⟨q, ?_, ?_⟩, hF.setCell (Or.inl (by simp)) _, hK.fr ((Fr.refl wr.heap.size [g] wr).setCell (Or.inl (by simp)) _) hK.2 (by simpa using hg0.symm)⟩
              · rw [eb, ← Hmq.out]; exact Hq.out
              · rw [eb, ← Hmq.out]
                exact h1.set 9 (.string q)
            case measure => simp [intOf]; omega
      · have hkn : k = ps.length := by omega
        rw [hkn, List.take_length] at hr1 h1
        have hge : ps.length ≤ k := by omega
        clear hkn hlt hk
        go_wp2
        go_end0
        exact ⟨rfl, .inl ⟨r1, hr1, h1⟩, hF⟩
end Go.Proofs.YtpboclafoccfnaaDoor
