/- gone, picked, New, Lose. -/
import Derived.Test.YtjlpbhmhnniodaaNetWait
namespace Go.Proofs.Ytjlpbhmhnniodaa
open Go.RowKit Go.Maps
open Nt
theorem own_len {w : World} {base e size n : Nat} {v : Value} {xs : List Value} (h : w.ownsRow base e size v n xs) : ∃ A cp, v = .slice A n cp := by
  rcases h.2 with ⟨rfl, h0⟩ | ⟨gb, cap, cur, rfl, _⟩
  · exact ⟨none, 0, by rw [h0]⟩
  · exact ⟨_, _, rfl⟩
theorem own_ne {w : World} {base e size n g t : Nat} {v : Value} {xs cs : List Value} (h : w.ownsRow base e size v n xs) (hg : Has w g t cs) (ht : t ≠ e) : v.ownBlock ≠ some g := fun he => by
  rcases h.2 with ⟨rfl, _⟩ | ⟨g', cap, cur, rfl, _, hg', _⟩
  · cases he
  · injection he with he
    rw [show g' = g from he, hg] at hg'
    injection hg' with hg'
    injection hg' with _ hg'
    exact ht hg'
set_option maxHeartbeats 2000000 in
theorem gone_any (w : World) (g : Nat) (F : List Nat) (made : Int) (ms : List Msg) (D : List (Pair × Unit)) (hN : NetIs w g F made ms D) (hms : ms.length ≤ 1000000) (f : FuncId) (lb : Array Value) (p : Msg → Bool) (eg : ∀ args w, (callFunc f args).run Try.prog w = .ok (.enter f args) w)
    (hp : ∀ W, Fr w.heap.size F w W → ∀ m ∈ ms, Calls Try.prog f (#[m.val] ++ lb) W fun e w' => e = .returned (.bool (p m)) ∧ Fr W.heap.size [] W w') :
    Calls Try.prog 20 #[.pointer (some ⟨g, 0, none⟩), .func (.func f) #[] lb] w fun e w' => e = .returned (.int .i64 ((ms.length : Int) - ((ms.filter fun m => !p m).length : Int))) ∧ NetIs w' g F made (ms.filter fun m => !p m) D ∧ Fr w.heap.size F w w' := by
  obtain ⟨sl, mp, h1, h2, h3, h4⟩ := hN.ex
  obtain ⟨As, cs, hsl⟩ := own_len h2
  have hgl := hN.lt g hN.self
  have hne := own_ne h2 h1 (by decide)
  have hsub : ∀ k, k ∈ sl.ownBlock.toList → k ∈ F := fun k hk => by
    cases ho : sl.ownBlock with
    | none => rw [ho] at hk; simp at hk
    | some j => rw [ho] at hk; simp at hk; subst hk; exact h3 _ ho
  have hgn : g ∉ sl.ownBlock.toList := fun hk => by
    cases ho : sl.ownBlock with
    | none => rw [ho] at hk; simp at hk
    | some j => rw [ho] at hk; simp at hk; subst hk; exact hne ho
  have hdel := delMsg_any w 0 sl ms f lb p eg h2 (by omega) (fun W hW => hp W (hW.mono (Nat.le_refl _) (fun k hk _ => hsub k hk)))
  have hfl : (ms.filter fun m => !p m).length ≤ ms.length := List.length_filter_le _ _
  obtain ⟨fs, hfs⟩ : ∃ fs, Hid (fs = ms.filter fun m => !p m) := ⟨_, rfl⟩
  rw [← hfs.out] at hdel hfl ⊢
  have hmem : ∀ m ∈ fs, m ∈ ms := fun m hm => by rw [hfs.out] at hm; exact (List.mem_filter.1 hm).1
  have hrest : ∀ w2 v2, w2.ownsRow 0 34 4 v2 fs.length (fs.flatMap Msg.cells) → v2.ownBlock = sl.ownBlock → Fr w.heap.size sl.ownBlock.toList w w2 → NetIs (w2.setCell ⟨g, 1, none⟩ v2) g F made fs D ∧ Fr w.heap.size F w (w2.setCell ⟨g, 1, none⟩ v2) := by
    intro w2 v2 ho hb f2
    have H := (h1.fr f2 hgl hgn).set 1 v2
    have o : One g w2 (w2.setCell ⟨g, 1, none⟩ v2) := (One.refl g w2).setCell 1 v2
    have hFF : Fr w.heap.size F w (w2.setCell ⟨g, 1, none⟩ v2) := (f2.mono (Nat.le_refl _) (fun k hk _ => hsub k hk)).one o (.inl hN.self)
    refine ⟨⟨⟨v2, mp, H, ownsRow_one ho o (by rw [hb]; exact hne), fun k hk => h3 k (by rw [← hb]; exact hk), ?_⟩, hN.self, fun k hk => Nat.lt_of_lt_of_le (hN.lt k hk) hFF.size, hN.cuts, fun m hm => hN.msgs m (hmem m hm)⟩, hFF⟩
    rcases h4 with h | ⟨b, hm, hM, hbF⟩
    · exact .inl h
    · refine .inr ⟨b, hm, (hM.fr f2 (hN.lt b hbF) (fun hk => ?_)).block (o.block b (Ne.symm (has_ne_map h1 hM))), hbF⟩
      cases ho2 : sl.ownBlock with
      | none => rw [ho2] at hk; simp at hk
      | some j => rw [ho2] at hk; simp at hk; subst hk; exact row_ne_map h2 hM ho2
  have hcell : ∀ w2, Fr w.heap.size sl.ownBlock.toList w w2 → w2.cell? ⟨g, 1, none⟩ = some sl ∧ w2.frozen? ⟨g, 1, none⟩ = false := fun w2 f2 => ⟨(h1.fr f2 hgl hgn).cell 1, (h1.fr f2 hgl hgn).frozen 1⟩
  have c0 : w.cell? ⟨g, 1, none⟩ = some sl := h1.cell 1
  clear hp h4 hN h1 eg
  subst hsl
  go_enter Try.func20, Try.ntmps20
  go_wp2_with (go_at_call 23; (refine hdel.mono ?_); rintro e w2 ⟨v2, rfl, ho, hb, f2⟩; obtain ⟨c2, z2⟩ := hcell w2 f2; obtain ⟨A2, cp2, rfl⟩ := own_len ho)
  go_ret
  exact ⟨rfl, hrest _ _ ho hb f2⟩
set_option maxHeartbeats 1000000 in
theorem new_any (w : World) : Calls Try.prog 8 #[] w fun e w' => e = .returned (.pointer (some ⟨w.heap.size, 0, none⟩)) ∧ NetIs w' w.heap.size [w.heap.size] 0 [] [] ∧ Fr w.heap.size [] w w' := by
  go_enter Try.func8, Try.ntmps8
  go_wp2
  go_ret
  refine ⟨rfl, ⟨⟨.slice none 0 0, .map none, Has.new w _ _, ⟨rfl, .inl ⟨rfl, rfl⟩⟩, fun k hk => (by cases hk), .inl ⟨rfl, rfl⟩⟩, by simp, by simp, by simp, by simp⟩, (Fr.refl _ _ _).alloc (Nat.le_refl _) _⟩
def Nt.pickI (n : Nat) (pick : Int) : Nat := (if pick < 0 then -(pick + 1) else pick).toNat % n
def Nt.pickS (ms : List Msg) (pick : Int) : Option Msg := ms[pickI ms.length pick]?
def Nt.zeroMsg : Msg := ⟨0, 0, 0, ByteArray.empty⟩
theorem Nt.pickI_lt {n : Nat} (pick : Int) (h : 0 < n) : pickI n pick < n := Nat.mod_lt _ h
set_option maxHeartbeats 1000000 in
theorem picked_none (w : World) (A : Option Addr) (c : Nat) (pick : Int) :
    Calls Try.prog 19 #[.slice A 0 c, .int .i64 pick] w fun e w' => e = .returned (.tuple #[zeroMsg.val, .bool false]) ∧ Fr w.heap.size [] w w' := by
  go_enter Try.func19, Try.ntmps19
  go_wp2
  refine bodyPost_ret (v := .tuple #[.agg #[.int .i64 0, .int .i64 0, .int .i64 0, .string ByteArray.empty], .bool false]) (by simp [results, Try.results19, go_sem]; rfl) rfl ⟨rfl, (Fr.refl _ _ _).alloc (Nat.le_refl _) _⟩
set_option maxHeartbeats 1000000 in
set_option maxRecDepth 100000 in
theorem picked_pos (w : World) (A : Option Addr) (c : Nat) (ms : List Msg) (k : Nat) (hkb : k < 9223372036854775808) (hA : ARow w w.heap.size A (ms.flatMap Msg.cells)) (hm : 0 < ms.length) (hl : ms.length ≤ 1000000) (x : Msg) (hx : ms[k % ms.length]'(Nat.mod_lt _ hm) = x) :
    Calls Try.prog 19 #[.slice A ms.length c, .int .i64 ((k : Int))] w fun e w' => e = .returned (.tuple #[x.val, .bool true]) ∧ Fr w.heap.size [] w w' := by
  have hF := (Fr.refl w.heap.size [] w).alloc (Nat.le_refl _) (.cells #[.int .i64 0, .int .i64 0, .int .i64 0, .string ⟨#[]⟩] 34)
  obtain ⟨blk, o, rfl, hb, d0, d1, d2, d3⟩ := msg_cells (hA.fr hF (Nat.le_refl _) (by simp)) (k % ms.length) (Nat.mod_lt _ hm)
  rw [hx] at d0 d1 d2 d3
  obtain ⟨j, hj⟩ : ∃ j, k % ms.length = j := ⟨_, rfl⟩
  have hjl : j < ms.length := by rw [← hj]; exact Nat.mod_lt _ hm
  rw [hj] at d0 d1 d2 d3
  have hmod : (k : Int) % (ms.length : Int) = (j : Int) := by rw [← hj]; simp
  have hji : (j : Int) < (ms.length : Int) := by omega
  have hj0 : (0 : Int) ≤ (j : Int) := by omega
  have hne : ((ms.length : Int) == 0) = false := by rw [beq_eq_false_iff_ne]; omega
  clear hx
  go_enter Try.func19, Try.ntmps19
  go_wp2
  refine bodyPost_ret (v := .tuple #[.agg #[.int .i64 x.n, .int .i64 x.src, .int .i64 x.dst, .string x.body], .bool true]) (by simp [results, Try.results19, go_sem]) rfl ⟨rfl, (Fr.refl w.heap.size [] w).alloc (Nat.le_refl _) _⟩
set_option maxHeartbeats 1000000 in
set_option maxRecDepth 100000 in
theorem picked_neg (w : World) (A : Option Addr) (c : Nat) (ms : List Msg) (k : Nat) (pick : Int) (hlo : -9223372036854775808 ≤ pick) (hpk : pick < 0) (hk0 : -(pick + 1) = (k : Int)) (hA : ARow w w.heap.size A (ms.flatMap Msg.cells)) (hm : 0 < ms.length) (hl : ms.length ≤ 1000000) (x : Msg) (hx : ms[k % ms.length]'(Nat.mod_lt _ hm) = x) :
    Calls Try.prog 19 #[.slice A ms.length c, .int .i64 (pick)] w fun e w' => e = .returned (.tuple #[x.val, .bool true]) ∧ Fr w.heap.size [] w w' := by
  have hF := (Fr.refl w.heap.size [] w).alloc (Nat.le_refl _) (.cells #[.int .i64 0, .int .i64 0, .int .i64 0, .string ⟨#[]⟩] 34)
  obtain ⟨blk, o, rfl, hb, d0, d1, d2, d3⟩ := msg_cells (hA.fr hF (Nat.le_refl _) (by simp)) (k % ms.length) (Nat.mod_lt _ hm)
  rw [hx] at d0 d1 d2 d3
  obtain ⟨j, hj⟩ : ∃ j, k % ms.length = j := ⟨_, rfl⟩
  have hjl : j < ms.length := by rw [← hj]; exact Nat.mod_lt _ hm
  rw [hj] at d0 d1 d2 d3
  have hmod : (k : Int) % (ms.length : Int) = (j : Int) := by rw [← hj]; simp
  have hji : (j : Int) < (ms.length : Int) := by omega
  have hj0 : (0 : Int) ≤ (j : Int) := by omega
  have hne : ((ms.length : Int) == 0) = false := by rw [beq_eq_false_iff_ne]; omega
  clear hx
  go_enter Try.func19, Try.ntmps19
  go_wp2
  refine bodyPost_ret (v := .tuple #[.agg #[.int .i64 x.n, .int .i64 x.src, .int .i64 x.dst, .string x.body], .bool true]) (by simp [results, Try.results19, go_sem]) rfl ⟨rfl, (Fr.refl w.heap.size [] w).alloc (Nat.le_refl _) _⟩
theorem picked_any (w : World) (A : Option Addr) (c : Nat) (ms : List Msg) (pick : Int) (hp : okI pick) (hA : ARow w w.heap.size A (ms.flatMap Msg.cells)) (hl : ms.length ≤ 1000000) :
    Calls Try.prog 19 #[.slice A ms.length c, .int .i64 pick] w fun e w' => e = .returned (.tuple #[((pickS ms pick).getD zeroMsg).val, .bool (pickS ms pick).isSome]) ∧ Fr w.heap.size [] w w' := by
  rcases Nat.eq_zero_or_pos ms.length with h0 | h0
  · obtain rfl : ms = [] := List.eq_nil_of_length_eq_zero h0
    exact picked_none w A c pick
  · have hs : pickS ms pick = some (ms[pickI ms.length pick]'(pickI_lt pick h0)) := List.getElem?_eq_getElem _
    rw [hs]
    unfold okI at hp
    by_cases hpos : 0 ≤ pick
    · obtain ⟨k, rfl⟩ := Int.eq_ofNat_of_zero_le hpos
      have hi : pickI ms.length (k : Int) = k % ms.length := by unfold pickI; rw [if_neg (by omega)]; rfl
      exact picked_pos w A c ms k (by omega) hA h0 hl _ (by simp only [hi, Option.getD_some])
    · obtain ⟨k, hk⟩ := Int.eq_ofNat_of_zero_le (show 0 ≤ -(pick + 1) by omega)
      have hi : pickI ms.length pick = k % ms.length := by unfold pickI; rw [if_pos (by omega), hk]; rfl
      exact picked_neg w A c ms k pick hp.1 (by omega) hk hA h0 hl _ (by simp only [hi, Option.getD_some])
end Go.Proofs.Ytjlpbhmhnniodaa
