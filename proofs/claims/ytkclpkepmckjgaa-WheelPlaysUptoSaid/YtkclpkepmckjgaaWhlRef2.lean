/- The reference: Next, At. -/
import Derived.Test.YtkclpkepmckjgaaWhlRef
namespace Go.Proofs.Ytkclpkepmckjgaa
open Go.RowKit Go.Maps Go.Sort Go.Shelf
open Wh
theorem Wh.nextR_snoc (L : List (Key × Int)) (d : Key × Int) : nextR (L ++ [d]) = if L = [] then d.2 else if d.2 < nextR L then d.2 else nextR L := by
  cases L with
  | nil => rfl
  | cons x xs =>
    simp [nextR, List.foldl_append]
    rfl
theorem getL_cons {α β : Type} [DecidableEq α] (x : α) (y : β) (D : List (α × β)) (a : α) : getL ((x, y) :: D) a = if a = x then some y else getL D a := by
  unfold getL
  rw [List.lookup_cons]
  by_cases h : a = x
  · subst h; simp
  · rw [show (a == x) = false by simpa using h, if_neg h]
set_option maxRecDepth 100000 in
set_option maxHeartbeats 4000000 in
theorem rnext_any (w : World) (r : Nat) (G : List Nat) (R : List (Key × Int)) (h : RIs w r G R) (hl : R.length ≤ 1000000000) :
    Calls Try.prog 16 #[.pointer (some ⟨r, 0, none⟩)] w fun e w' => e = .returned (.tuple #[.int .i64 (nextR R), .bool (decide (R ≠ []))]) ∧ Fr w.heap.size [] w w' ∧ w'.heap.size = w.heap.size := by
  obtain ⟨A, c, c0, hr⟩ := h.read
  have hrl := h.lt r h.self
  go_enter Try.func16, Try.ntmps16
  go_wp2
  go_loopw [4, 5] (fun v i wr => ∃ k : Nat, k ≤ R.length ∧ i = .int .i64 (k : Int) ∧ v = .int .i64 (nextR (R.take k)) ∧ wr = w) (fun _ i _ => R.length - (intOf i).toNat)
  case atStart => exact ⟨0, by omega, rfl, rfl, rfl⟩
  case round =>
    obtain ⟨k, hk, rfl, rfl, rfl⟩ := hrel
    by_cases hlt : k < R.length
    · have hki : (k : Int) < R.length := by omega
      obtain ⟨blk, o, rfl, y0, -⟩ := rc_at hr (Fr.refl wr.heap.size [] wr) (by simp) k hlt
      obtain ⟨d, hd⟩ : ∃ d, R[k] = d := ⟨_, rfl⟩
      have htk : R.take (k + 1) = R.take k ++ [d] := by rw [List.take_succ_eq_append_getElem hlt, hd]
      have hsn := nextR_snoc (R.take k) d
      rw [← htk] at hsn
      rw [hd] at y0
      clear hd htk
      generalize nextR (R.take k) = m at *
      rcases Nat.eq_zero_or_pos k with rfl | hk0
      · rw [if_pos (by simp)] at hsn
        rw [Nat.zero_mul, Nat.add_zero] at y0
        go_wp2
        exact ⟨⟨1, by omega, by go_num, by rw [hsn], by trivial⟩, by simp [intOf]; omega⟩
      · rw [if_neg (by intro e; rcases List.take_eq_nil_iff.1 e with e | e <;> first | omega | (subst e; simp at hlt))] at hsn
        have hkb : ((k : Int) == 0) = false := beq_false_of_ne (by omega)
        have hkb2 : (k == 0) = false := beq_false_of_ne (by omega)
        by_cases hdm : d.2 < m
        · have hdd : decide (d.2 < m) = true := decide_eq_true hdm
          rw [if_pos hdm] at hsn
          go_wp2
          exact ⟨⟨k + 1, by omega, by go_num, by rw [hsn], by trivial⟩, by simp [intOf]; omega⟩
        · have hdd : decide (d.2 < m) = false := decide_eq_false hdm
          rw [if_neg hdm] at hsn
          go_wp2
          exact ⟨⟨k + 1, by omega, by go_num, by rw [hsn], by trivial⟩, by simp [intOf]; omega⟩
    · obtain rfl : k = R.length := by omega
      rw [List.take_length]
      have hb : decide (0 < R.length) = decide (R ≠ []) := by cases R <;> simp
      have hb2 : decide ((0 : Int) < R.length) = decide (R ≠ []) := by cases R <;> simp
      obtain ⟨b, hbb⟩ : ∃ b, decide (R ≠ []) = b := ⟨_, rfl⟩
      rw [hbb] at hb hb2
      generalize hm : nextR R = m
      replace hbb : Hid (decide (R ≠ []) = b) := hbb
      go_upto_region 7 with fail
      go_quiet (fail)
      go_wp2
      refine bodyPost_ret (v := .tuple #[.int .i64 m, .bool b]) (by simp [results, Try.results16, go_sem]) rfl ⟨by rw [hm, hbb.out], (Fr.refl _ _ _).drewN _, rfl⟩
set_option maxRecDepth 100000 in
set_option maxHeartbeats 4000000 in
theorem rat_any (w : World) (r : Nat) (G : List Nat) (R : List (Key × Int)) (h : RIs w r G R) (hl : R.length ≤ 1000000000) (p : Key) :
    Calls Try.prog 19 #[.pointer (some ⟨r, 0, none⟩), KV p] w fun e w' => e = .returned (.tuple #[.int .i64 ((getL R p).getD 0), .bool (getL R p).isSome]) ∧ w = w' := by
  obtain ⟨A, c, c0, hr⟩ := h.read
  have hrl := h.lt r h.self
  obtain ⟨sx, hsx⟩ : ∃ sx : ByteArray, KV p = .string sx := ⟨_, rfl⟩
  rw [hsx]
  go_enter Try.func19, Try.ntmps19
  go_wp2
  go_loopw [6] (fun i wr => ∃ k : Nat, k ≤ R.length ∧ i = .int .i64 (k : Int) ∧ getL R p = getL (R.drop k) p ∧ wr = w) (fun i _ => R.length - (intOf i).toNat)
  case atStart => exact ⟨0, by omega, rfl, rfl, rfl⟩
  case round =>
    obtain ⟨k, hk, rfl, hget, rfl⟩ := hrel
    by_cases hlt : k < R.length
    · have hki : (k : Int) < R.length := by omega
      obtain ⟨blk, o, rfl, y0, y1⟩ := rc_at hr (Fr.refl wr.heap.size [] wr) (by simp) k hlt
      obtain ⟨d, hd⟩ : ∃ d, R[k] = d := ⟨_, rfl⟩
      have hdr : R.drop k = d :: R.drop (k + 1) := by rw [← hd]; exact List.drop_eq_getElem_cons hlt
      rw [hd] at y0 y1
      obtain ⟨sd, hsd⟩ : ∃ sd : ByteArray, KV d.1 = .string sd := ⟨_, rfl⟩
      have hbq := str_beq hsd hsx
      rw [hsd] at y1
      rw [hdr] at hget
      by_cases he : d.1 = p
      · rw [decide_eq_true he] at hbq
        have hg2 : getL R p = some d.2 := by rw [hget]; obtain ⟨d1, d2⟩ := d; rw [getL_cons, if_pos he.symm]
        clear hget he
        go_wp2
        refine bodyPost_ret (v := .tuple #[.int .i64 d.2, .bool true]) (by simp [results, Try.results19, go_sem]) rfl ⟨by rw [hg2]; rfl, rfl⟩
      · rw [decide_eq_false he] at hbq
        have hg2 : getL R p = getL (R.drop (k + 1)) p := by
          rw [hget]; obtain ⟨d1, d2⟩ := d; rw [getL_cons, if_neg fun e => he e.symm]
        clear hget he
        go_wp2
        exact ⟨⟨k + 1, by omega, by go_num, hg2, by trivial⟩, by simp [intOf]; omega⟩
    · obtain rfl : k = R.length := by omega
      rw [List.drop_length] at hget
      go_wp2
      refine bodyPost_ret (v := .tuple #[.int .i64 0, .bool false]) (by simp [results, Try.results19, go_sem]) rfl ⟨by rw [hget]; rfl, rfl⟩
end Go.Proofs.Ytkclpkepmckjgaa
