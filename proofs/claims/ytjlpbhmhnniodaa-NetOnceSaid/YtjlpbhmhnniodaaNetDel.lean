/- slices.DeleteFunc, IndexFunc, Clone at []Message. -/
import Derived.Test.YtjlpbhmhnniodaaNetHas
import Derived.Shelf.Abstract
namespace Go.Proofs.Ytjlpbhmhnniodaa
open Go.RowKit Go.Maps
open Nt
theorem msg_cells {w : World} {N : Nat} {A : Option Addr} {us : List Msg} (h : ARow w N A (us.flatMap Msg.cells)) (k : Nat) (hk : k < us.length) : ∃ blk o, A = some ⟨blk, o, none⟩ ∧ blk < N ∧
    w.cell? ⟨blk, o + k * 4, none⟩ = some (.int .i64 us[k].n) ∧ w.cell? ⟨blk, o + k * 4 + 1, none⟩ = some (.int .i64 us[k].src) ∧ w.cell? ⟨blk, o + k * 4 + 2, none⟩ = some (.int .i64 us[k].dst) ∧ w.cell? ⟨blk, o + k * 4 + 3, none⟩ = some (.string us[k].body) := by
  obtain ⟨blk, o, hA, hb, hc⟩ := h.at (c := 4) (fun _ => rfl) (by decide) k hk
  exact ⟨blk, o, hA, hb, hc 0 _ rfl, hc 1 _ rfl, hc 2 _ rfl, hc 3 _ rfl⟩
set_option maxHeartbeats 1000000 in
theorem idxMsg_any (w : World) (A : Option Addr) (c : Nat) (ms : List Msg) (g : FuncId) (lb : Array Value) (p : Msg → Bool) (eg : ∀ args w, (callFunc g args).run Try.prog w = .ok (.enter g args) w) (h : ARow w w.heap.size A (ms.flatMap Msg.cells)) (hl : ms.length ≤ 4611686018427387904)
    (hp : ∀ W, Fr w.heap.size [] w W → ∀ m ∈ ms, Calls Try.prog g (#[m.val] ++ lb) W fun e w' => e = .returned (.bool (p m)) ∧ Fr W.heap.size [] W w') :
    Calls Try.prog 29 #[.slice A ms.length c, .func (.func g) #[] lb] w fun e w' => (((∀ m ∈ ms, p m = false) ∧ e = .returned (.int .i64 (-1))) ∨ ∃ (k : Nat) (hk : k < ms.length), e = .returned (.int .i64 (k : Int)) ∧ p ms[k] = true ∧ ∀ m ∈ ms.take k, p m = false) ∧ Fr w.heap.size [] w w' := by
  go_enter Try.func29, Try.ntmps29
  go_wp2
  go_loopw [8] (fun i wr => ∃ k : Nat, k ≤ ms.length ∧ i = .int .i64 (k : Int) ∧ Fr w.heap.size [] w wr ∧ ∀ m ∈ ms.take k, p m = false) (fun i _ => ms.length - (intOf i).toNat)
  case atStart => exact ⟨0, by omega, rfl, Fr.refl _ _ _, by simp⟩
  case round =>
    obtain ⟨k, hk, rfl, hF, hno⟩ := hrel
    by_cases hlt : k < ms.length
    · obtain ⟨x, hx⟩ : ∃ x, Hid (x = ms[k]'hlt) := ⟨ms[k]'hlt, rfl⟩
      have hki : (k : Int) < ms.length := by omega
      obtain ⟨blk, o, rfl, hb, d0, d1, d2, d3⟩ := msg_cells (h.fr hF (Nat.le_refl _) (by simp)) k hlt
      rw [← hx.out] at d0 d1 d2 d3
      have hc : Calls Try.prog g (#[.agg #[.int .i64 x.n, .int .i64 x.src, .int .i64 x.dst, .string x.body]] ++ lb) wr fun e w' => e = .returned (.bool (p x)) ∧ Fr wr.heap.size [] wr w' := hp wr hF x (by rw [hx.out]; exact List.getElem_mem _)
      obtain ⟨b, hpb⟩ : ∃ b, p x = b := ⟨_, rfl⟩
      rw [hpb] at hc
      clear hp
      cases b
      · go_wp2_with (go_at_fn g; (refine hc.mono ?_); rintro e w2 ⟨rfl, f2⟩)
        go_roundw
        case rel =>
          refine ⟨k + 1, by omega, by go_num, hF.trans (f2.mono hF.size (by simp)), fun m hm => ?_⟩
          rw [List.take_succ_eq_append_getElem hlt, List.mem_append] at hm
          rcases hm with hm | hm
          · exact hno m hm
          · simp only [List.mem_singleton] at hm
            rw [hm, ← hx.out]; exact hpb
        case measure => simp [intOf]; omega
      · go_wp2_with (go_at_fn g; (refine hc.mono ?_); rintro e w2 ⟨rfl, f2⟩)
        go_ret
        exact ⟨.inr ⟨k, hlt, rfl, by rw [← hx.out]; exact hpb, hno⟩, hF.trans (f2.mono hF.size (by simp))⟩
    · have hki : ¬ ((k : Int) < ms.length) := by omega
      go_wp2
      go_ret
      refine ⟨.inl ⟨fun m hm => hno m (by rw [List.take_of_length_le (by omega)]; exact hm), rfl⟩, hF⟩
/-- clear(s) on a part of a block that is known whole. -/
theorem zeroCells_len (zs : Array Value) (n : Nat) : (Builtin.zeroCells zs n).toList.length = n * zs.size := by simp [Builtin.zeroCells]
theorem zeroCells_mem (zs : Array Value) (n : Nat) (hz : ∀ v ∈ zs, v.oneCell' = true) (h0 : 0 < zs.size) : ∀ v ∈ (Builtin.zeroCells zs n).toList, v.oneCell' = true := by
  intro v hv
  simp only [Builtin.zeroCells, Array.toList_map, List.mem_map, Array.toList_range] at hv
  obtain ⟨i, _, rfl⟩ := hv
  have hm : i % zs.size < zs.size := Nat.mod_lt _ h0
  rw [getElem!_pos zs (i % zs.size) hm]
  exact hz _ (Array.getElem_mem hm)
theorem run_clear_has {P : Program} (w : World) (t e : TypeId) (z : Value) (ht : P.underlying t = some (.slice e)) (hv : ∀ w, (zeroValue e).run P w = .ok z w) (h0 : 0 < z.cells.size) (h1 : ∀ v ∈ z.cells, v.oneCell' = true)
    (g o n : Nat) (tt : TypeId) (cs : List Value) (h : Has w g tt cs) (hn : 0 < n) (hfit : o + n * z.cells.size ≤ cs.length) :
    ∃ w', (∀ ty c, (Builtin.clear_ #[t] ty #[.slice (some ⟨g, o, none⟩) n c]).run P w = .ok (.tuple #[]) w') ∧ Has w' g tt (cs.take o ++ (Builtin.zeroCells z.cells n).toList ++ cs.drop (o + n * z.cells.size)) ∧ One g w w' := by
  have hlen := zeroCells_len z.cells n
  obtain ⟨h2, h3⟩ := setCells_has (Builtin.zeroCells z.cells n).toList o w cs h (by rw [hlen]; exact hfit)
  rw [hlen] at h2
  refine ⟨_, fun ty c => ?_, h2, h3⟩
  have hst := run_storeCells_cells (P := P) g o (Builtin.zeroCells z.cells n).toList 0 w (fun j hj => by rw [Nat.add_zero, h.cell, List.getElem?_eq_getElem (by omega)]; rfl) (fun j hj => h.frozen _) (zeroCells_mem z.cells n h1 h0)
  simp only [Nat.add_zero] at hst
  obtain ⟨m, rfl⟩ : ∃ m, n = m + 1 := ⟨n - 1, by omega⟩
  simp [Builtin.clear_, run_underlying ht, hv, hst]
theorem part_cells {cs : List Value} {us : List Msg} {j m : Nat} (h : (cs.drop (j * 4)).take m = (us.drop j).flatMap Msg.cells) (hj : j < us.length) : cs[j * 4]? = some (.int .i64 us[j].n) ∧ cs[j * 4 + 1]? = some (.int .i64 us[j].src) ∧ cs[j * 4 + 2]? = some (.int .i64 us[j].dst) ∧ cs[j * 4 + 3]? = some (.string us[j].body) := by
  rw [List.drop_eq_getElem_cons hj, List.flatMap_cons] at h
  have e : ∀ i v, us[j].cells[i]? = some v → cs[j * 4 + i]? = some v := fun i v hv => by
    have h1 := congrArg (·[i]?) h
    rw [List.getElem?_append_left (List.getElem?_eq_some_iff.1 hv).1, hv, List.getElem?_take] at h1
    split at h1
    · rw [List.getElem?_drop] at h1; exact h1
    · exact absurd h1 (by simp)
  exact ⟨e 0 _ rfl, e 1 _ rfl, e 2 _ rfl, e 3 _ rfl⟩
theorem flat_take (us : List Msg) : ∀ k, (us.flatMap Msg.cells).take (k * 4) = (us.take k).flatMap Msg.cells := by
  induction us with
  | nil => intro k; simp
  | cons u us ih =>
    intro k
    cases k with
    | zero => simp
    | succ k =>
      rw [List.flatMap_cons, List.take_succ_cons, List.flatMap_cons, List.take_append, List.take_of_length_le (by show 4 ≤ _; omega), show (k + 1) * 4 - u.cells.length = k * 4 by show (k + 1) * 4 - 4 = k * 4; omega, ih]
theorem flat_drop (us : List Msg) : ∀ k, (us.flatMap Msg.cells).drop (k * 4) = (us.drop k).flatMap Msg.cells := by
  induction us with
  | nil => intro k; simp
  | cons u us ih =>
    intro k
    cases k with
    | zero => simp
    | succ k =>
      rw [List.flatMap_cons, List.drop_succ_cons, List.drop_append, List.drop_eq_nil_of_le (by show 4 ≤ _; omega), List.nil_append, show (k + 1) * 4 - u.cells.length = k * 4 by show (k + 1) * 4 - 4 = k * 4; omega, ih]
theorem rest_next {ks : List Value} {ms : List Msg} {j : Nat} (h : (ks.drop (j * 4)).take ((ms.length - j) * 4) = (ms.drop j).flatMap Msg.cells) (hj : j < ms.length) :
    (ks.drop ((j + 1) * 4)).take ((ms.length - (j + 1)) * 4) = (ms.drop (j + 1)).flatMap Msg.cells := by
  have h1 := congrArg (List.drop 4) h
  rw [List.drop_take, List.drop_drop, List.drop_eq_getElem_cons hj, List.flatMap_cons] at h1
  rw [show (j + 1) * 4 = j * 4 + 4 by omega, show (ms.length - (j + 1)) * 4 = (ms.length - j) * 4 - 4 by omega]
  exact h1
theorem set4_take {α : Type} {ks : List α} {i : Nat} {a b c d : α} (h : i * 4 + 4 ≤ ks.length) : ((((ks.set (i * 4) a).set (i * 4 + 1) b).set (i * 4 + 2) c).set (i * 4 + 3) d).take ((i + 1) * 4) = ks.take (i * 4) ++ [a, b, c, d] := by
  apply List.ext_getElem?
  intro j
  rw [List.getElem?_take, List.getElem?_append, List.getElem?_take, List.length_take, Nat.min_eq_left (by omega)]
  simp only [List.getElem?_set, List.length_set]
  rcases (show j < i * 4 ∨ j = i * 4 ∨ j = i * 4 + 1 ∨ j = i * 4 + 2 ∨ j = i * 4 + 3 ∨ i * 4 + 4 ≤ j by omega) with h1 | rfl | rfl | rfl | rfl | h1
  · simp [show j < (i + 1) * 4 by omega, h1, show i * 4 + 3 ≠ j by omega, show i * 4 + 2 ≠ j by omega, show i * 4 + 1 ≠ j by omega, show i * 4 ≠ j by omega]
  · simp [show i * 4 < (i + 1) * 4 by omega, show i * 4 < ks.length by omega]
  · simp [show i * 4 + 1 < (i + 1) * 4 by omega, show i * 4 + 1 < ks.length by omega, show ¬ (i * 4 + 1 < i * 4) by omega]
  · simp [show i * 4 + 2 < (i + 1) * 4 by omega, show i * 4 + 2 < ks.length by omega, show ¬ (i * 4 + 2 < i * 4) by omega]
  · simp [show i * 4 + 3 < (i + 1) * 4 by omega, show i * 4 + 3 < ks.length by omega, show ¬ (i * 4 + 3 < i * 4) by omega]
  · rw [if_neg (by omega), if_neg (by omega), List.getElem?_eq_none (by simp; omega)]
theorem set4_drop {α : Type} {ks : List α} {i m : Nat} {a b c d : α} (h : i * 4 + 4 ≤ m) : ((((ks.set (i * 4) a).set (i * 4 + 1) b).set (i * 4 + 2) c).set (i * 4 + 3) d).drop m = ks.drop m := by
  rw [List.drop_set_of_lt (by omega), List.drop_set_of_lt (by omega), List.drop_set_of_lt (by omega), List.drop_set_of_lt (by omega)]
theorem zeroM : ∀ W : World, (zeroValue 34).run Try.prog W = .ok (.agg #[.int .i64 0, .int .i64 0, .int .i64 0, .string ByteArray.empty]) W := Try.zeroValue34
theorem ones_msg {a b c d : Value} (ha : a.oneCell' = true) (hb : b.oneCell' = true) (hc : c.oneCell' = true) (hd : d.oneCell' = true) : ∀ u ∈ [a, b, c, d], u.oneCell' = true := by
  intro u hu
  simp only [List.mem_cons, List.not_mem_nil, or_false] at hu
  rcases hu with rfl | rfl | rfl | rfl <;> assumption
theorem infoM : (Try.prog.info? 34).map (·.size) = some 4 := by kernel_rfl
set_option maxHeartbeats 2000000 in
set_option maxRecDepth 100000 in
theorem del_some (w : World) (gb cap : Nat) (ms : List Msg) (g : FuncId) (lb : Array Value) (p : Msg → Bool) (eg : ∀ args w, (callFunc g args).run Try.prog w = .ok (.enter g args) w)
    (cs : List Value) (H : Has w gb 34 cs) (hcap : cs.length = cap * 4) (hn : ms.length ≤ cap) (hcs : cs.take (ms.length * 4) = ms.flatMap Msg.cells) (hl : ms.length ≤ 4611686018427387904)
    (hp : ∀ W, Fr w.heap.size [gb] w W → ∀ m ∈ ms, Calls Try.prog g (#[m.val] ++ lb) W fun e w' => e = .returned (.bool (p m)) ∧ Fr W.heap.size [] W w') :
    Calls Try.prog 23 #[.slice (some ⟨gb, 0, none⟩) ms.length cap, .func (.func g) #[] lb] w fun e w' => e = .returned (.slice (some ⟨gb, 0, none⟩) (ms.filter fun m => !p m).length cap) ∧
      (∃ cs', Has w' gb 34 cs' ∧ cs'.length = cap * 4 ∧ cs'.take ((ms.filter fun m => !p m).length * 4) = (ms.filter fun m => !p m).flatMap Msg.cells) ∧ Fr w.heap.size [gb] w w' := by
  have hgl := H.lt
  have hrow : ARow w w.heap.size (some ⟨gb, 0, none⟩) (ms.flatMap Msg.cells) := .inr ⟨gb, 0, rfl, hgl, fun j v hv => by
    rw [Nat.zero_add, H.cell]
    rw [← hcs, List.getElem?_take] at hv
    split at hv
    · exact hv
    · cases hv⟩
  have hix := idxMsg_any w (some ⟨gb, 0, none⟩) cap ms g lb p eg hrow hl (fun W hW m hm => hp W (hW.mono (Nat.le_refl _) (by simp)) m hm)
  go_enter Try.func23, Try.ntmps23
  go_wp2_with (go_at_call 29; (refine hix.mono ?_); rintro e w1 ⟨⟨hno, rfl⟩ | ⟨k, hk, rfl, hpk, hbef⟩, f1⟩; all_goals (try have hkb : ((k : Int) == -1) = false := by rw [beq_eq_false_iff_ne]; omega))
  · go_wp2
    go_ret
    have : ms.filter (fun m => !p m) = ms := List.filter_eq_self.2 fun m hm => by simp [hno m hm]
    rw [this]
    exact ⟨rfl, ⟨cs, H.fr f1 hgl (by simp), hcap, hcs⟩, f1.mono (Nat.le_refl _) (by simp)⟩
  · have hF1 : Fr w.heap.size [gb] w w1 := f1.mono (Nat.le_refl _) (by simp)
    have H1 := H.fr f1 hgl (by simp)
    have hk1 : (ms.take (k + 1)).filter (fun m => !p m) = ms.take k := by
      rw [List.take_succ_eq_append_getElem hk, List.filter_append, List.filter_eq_self.2 (fun m hm => by simp [hbef m hm])]
      simp [hpk]
    go_wp2
    go_loopw [5, 6] (fun i j wr => ∃ (ik jk : Nat) (ks : List Value), i = .int .i64 (ik : Int) ∧ j = .int .i64 (jk : Int) ∧ ik < jk ∧ jk ≤ ms.length ∧ ik = ((ms.take jk).filter fun m => !p m).length ∧ Fr w.heap.size [gb] w wr ∧
      Has wr gb 34 ks ∧ ks.length = cap * 4 ∧ ks.take (ik * 4) = ((ms.take jk).filter fun m => !p m).flatMap Msg.cells ∧ (ks.drop (jk * 4)).take ((ms.length - jk) * 4) = (ms.drop jk).flatMap Msg.cells) (fun _ j _ => ms.length - (intOf j).toNat)
    case atStart =>
      refine ⟨k, k + 1, cs, rfl, by go_num, by omega, by omega, by rw [hk1, List.length_take]; omega, hF1, H1, hcap, ?_, ?_⟩
      · rw [hk1, ← flat_take, ← hcs, List.take_take, Nat.min_eq_left (by omega)]
      · rw [← flat_drop, ← hcs, List.drop_take, show (ms.length - (k + 1)) * 4 = ms.length * 4 - (k + 1) * 4 by omega]
    case round =>
      obtain ⟨ik, jk, ks, rfl, rfl, hij, hjn, hik, hF, hH, hkl, hke, hrest⟩ := hrel
      by_cases hlt : jk < ms.length
      · obtain ⟨x, hx⟩ : ∃ x, Hid (x = ms[jk]'hlt) := ⟨ms[jk]'hlt, rfl⟩
        have hki : (jk : Int) < ms.length := by omega
        obtain ⟨d0, d1, d2, d3⟩ := part_cells hrest hlt
        rw [← hx.out] at d0 d1 d2 d3
        have e0 := (hH.cell (jk * 4)).trans d0
        have e1 := (hH.cell (jk * 4 + 1)).trans d1
        have e2 := (hH.cell (jk * 4 + 2)).trans d2
        have e3 := (hH.cell (jk * 4 + 3)).trans d3
        have hF2 := hF.alloc hF.size (.cells #[.int .i64 x.n, .int .i64 x.src, .int .i64 x.dst, .string x.body] 34)
        have H2 := hH.alloc (.cells #[.int .i64 x.n, .int .i64 x.src, .int .i64 x.dst, .string x.body] 34)
        have V2 : Has (wr.alloc (.cells #[.int .i64 x.n, .int .i64 x.src, .int .i64 x.dst, .string x.body] 34)) wr.heap.size 34 [.int .i64 x.n, .int .i64 x.src, .int .i64 x.dst, .string x.body] := Has.new wr _ _
        have hc : Calls Try.prog g (#[.agg #[.int .i64 x.n, .int .i64 x.src, .int .i64 x.dst, .string x.body]] ++ lb) (wr.alloc (.cells #[.int .i64 x.n, .int .i64 x.src, .int .i64 x.dst, .string x.body] 34)) fun e w' => e = .returned (.bool (p x)) ∧ Fr (wr.alloc (.cells #[.int .i64 x.n, .int .i64 x.src, .int .i64 x.dst, .string x.body] 34)).heap.size [] (wr.alloc (.cells #[.int .i64 x.n, .int .i64 x.src, .int .i64 x.dst, .string x.body] 34)) w' := hp _ hF2 x (by rw [hx.out]; exact List.getElem_mem _)
        obtain ⟨b, hpb⟩ : ∃ b, p x = b := ⟨_, rfl⟩
        rw [hpb] at hc
        have hgl2 := hH.lt
        have hnext := rest_next hrest hlt
        have hfil : (ms.take (jk + 1)).filter (fun m => !p m) = (ms.take jk).filter (fun m => !p m) ++ if b then [] else [x] := by
          rw [List.take_succ_eq_append_getElem hlt, List.filter_append, ← hx.out, List.filter_cons, hpb]
          cases b <;> rfl
        have HIK := Lib.hid hik
        clear hp hix d0 d1 d2 d3 hik
        cases b
        · obtain ⟨y0, hy0⟩ : ∃ y, ks[ik * 4]? = some y := ⟨_, List.getElem?_eq_getElem (by omega)⟩
          obtain ⟨y1, hy1⟩ : ∃ y, ks[ik * 4 + 1]? = some y := ⟨_, List.getElem?_eq_getElem (by omega)⟩
          obtain ⟨y2, hy2⟩ : ∃ y, ks[ik * 4 + 2]? = some y := ⟨_, List.getElem?_eq_getElem (by omega)⟩
          obtain ⟨y3, hy3⟩ : ∃ y, ks[ik * 4 + 3]? = some y := ⟨_, List.getElem?_eq_getElem (by omega)⟩
          go_wp2_with (first
            | (go_at_fn g; (refine hc.mono ?_); rintro e w2 ⟨rfl, f2⟩; have H3 := H2.fr f2 H2.lt (by simp); obtain ⟨v0, v1, v2, v3⟩ : w2.cell? ⟨wr.heap.size, 0, none⟩ = some (.int .i64 x.n) ∧ w2.cell? ⟨wr.heap.size, 1, none⟩ = some (.int .i64 x.src) ∧ w2.cell? ⟨wr.heap.size, 2, none⟩ = some (.int .i64 x.dst) ∧ w2.cell? ⟨wr.heap.size, 3, none⟩ = some (.string x.body) := (have V3 := V2.fr f2 V2.lt (by simp); ⟨V3.cell 0, V3.cell 1, V3.cell 2, V3.cell 3⟩); have z0 := (H3.cell (ik * 4)).trans hy0; have z1 := (H3.cell (ik * 4 + 1)).trans hy1; have z2 := (H3.cell (ik * 4 + 2)).trans hy2; have z3 := (H3.cell (ik * 4 + 3)).trans hy3; have z4 := H3.frozen (ik * 4); have z5 := H3.frozen (ik * 4 + 1); have z6 := H3.frozen (ik * 4 + 2); have z7 := H3.frozen (ik * 4 + 3)))
          have H4 := (((H3.set (ik * 4) (.int .i64 x.n)).set (ik * 4 + 1) (.int .i64 x.src)).set (ik * 4 + 2) (.int .i64 x.dst)).set (ik * 4 + 3) (.string x.body)
          have hF3 := hF2.trans (f2.mono hF2.size (by simp))
          have hF4 := ((((hF3.setCell (p := ⟨gb, ik * 4, none⟩) (.inl (by simp)) (.int .i64 x.n)).setCell (p := ⟨gb, ik * 4 + 1, none⟩) (.inl (by simp)) (.int .i64 x.src)).setCell (p := ⟨gb, ik * 4 + 2, none⟩) (.inl (by simp)) (.int .i64 x.dst)).setCell (p := ⟨gb, ik * 4 + 3, none⟩) (.inl (by simp)) (.string x.body))
          go_roundw
          case rel =>
            refine ⟨ik + 1, jk + 1, _, by go_num, by go_num, by omega, by omega, by rw [hfil, List.length_append, ← HIK.out]; rfl, hF4, H4, by simpa using hkl, ?_, ?_⟩
            · rw [hfil, List.flatMap_append, ← hke, set4_take (by omega)]
              rfl
            · rw [set4_drop (by omega)]
              exact hnext
          case measure => simp [intOf]; omega
        · go_wp2_with (first
            | (go_at_fn g; (refine hc.mono ?_); rintro e w2 ⟨rfl, f2⟩))
          go_roundw
          case rel =>
            refine ⟨ik, jk + 1, ks, rfl, by go_num, by omega, by omega, by rw [hfil]; simpa using HIK.out, hF2.trans (f2.mono hF2.size (by simp)), H2.fr f2 H2.lt (by simp), hkl, ?_, hnext⟩
            rw [hfil, hke]
            simp
          case measure => simp [intOf]; omega
      · have hkn : jk = ms.length := by omega
        subst hkn
        have hki : ¬ ((ms.length : Int) < ms.length) := by omega
        rw [List.take_length] at hik hke
        have HIK := Lib.hid hik
        clear hik
        obtain ⟨w9, hcl, h9, o9⟩ := run_clear_has (P := Try.prog) wr 26 34 _ Try.underlying26 zeroM (by decide) (by intro v hv; simp [Value.cells] at hv; rcases hv with rfl | rfl <;> rfl) gb (ik * 4) (ms.length - ik) 34 ks hH (by omega) (by show ik * 4 + (ms.length - ik) * 4 ≤ _; omega)
        have hA : (ks.take (ik * 4)).length = ik * 4 := by rw [List.length_take]; omega
        have hZ := zeroCells_len (Value.agg #[.int .i64 0, .int .i64 0, .int .i64 0, .string ByteArray.empty]).cells (ms.length - ik)
        rw [show (Value.agg #[.int .i64 0, .int .i64 0, .int .i64 0, .string ByteArray.empty]).cells.size = 4 from rfl] at hZ h9
        go_wp2
        go_ret
        refine ⟨(show Ending.returned (Value.slice (some ⟨gb, 0, none⟩) ik cap) = _ by rw [← HIK.out]), ⟨_, h9, ?_, ?_⟩, hF.one o9 (.inl (by simp))⟩
        · rw [List.length_append, List.length_append, hA, hZ, List.length_drop]
          omega
        · rw [← HIK.out, List.append_assoc, List.take_left' hA]
          exact hke
theorem del_none (w : World) (A : Option Addr) (c : Nat) (g : FuncId) (lb : Array Value) (eg : ∀ args w, (callFunc g args).run Try.prog w = .ok (.enter g args) w) :
    Calls Try.prog 23 #[.slice A 0 c, .func (.func g) #[] lb] w fun e w' => e = .returned (.slice A 0 c) ∧ Fr w.heap.size [] w w' := by
  have hix := idxMsg_any w A c [] g lb (fun _ => false) eg (.inl rfl) (by simp) (fun W hW m hm => by simp at hm)
  go_enter Try.func23, Try.ntmps23
  go_wp2_with (go_at_call 29; (refine hix.mono ?_); rintro e w1 ⟨⟨_, rfl⟩ | ⟨k, hk, _⟩, f1⟩; all_goals (try exact absurd hk (by simp)))
  go_ret
  exact ⟨rfl, f1⟩
/-- DeleteFunc on a row of the call's own. -/
theorem delMsg_any (w : World) (base : Nat) (v : Value) (ms : List Msg) (g : FuncId) (lb : Array Value) (p : Msg → Bool) (eg : ∀ args w, (callFunc g args).run Try.prog w = .ok (.enter g args) w)
    (h : w.ownsRow base 34 4 v ms.length (ms.flatMap Msg.cells)) (hl : ms.length ≤ 4611686018427387904)
    (hp : ∀ W, Fr w.heap.size v.ownBlock.toList w W → ∀ m ∈ ms, Calls Try.prog g (#[m.val] ++ lb) W fun e w' => e = .returned (.bool (p m)) ∧ Fr W.heap.size [] W w') :
    Calls Try.prog 23 #[v, .func (.func g) #[] lb] w fun e w' => ∃ v', e = .returned v' ∧ w'.ownsRow base 34 4 v' (ms.filter fun m => !p m).length ((ms.filter fun m => !p m).flatMap Msg.cells) ∧ v'.ownBlock = v.ownBlock ∧ Fr w.heap.size v.ownBlock.toList w w' := by
  have hlen := h.1
  rcases h.2 with ⟨rfl, h0⟩ | ⟨gb, cap, cur, rfl, hb, hg, hn, hcm, hcs, htk⟩
  · obtain rfl : ms = [] := List.eq_nil_of_length_eq_zero h0
    refine (del_none w none 0 g lb eg).mono fun e w' ⟨he, hf⟩ => ⟨_, he, ⟨rfl, .inl ⟨rfl, rfl⟩⟩, rfl, hf⟩
  · have hH : Has w gb 34 cur.toList := by unfold Has; rw [hg]
    refine (del_some w gb cap ms g lb p eg cur.toList hH (by simpa using hcs) hn htk hl hp).mono fun e w' ⟨he, ⟨cs', h1, h2, h3⟩, hf⟩ => ⟨_, he, ⟨by rw [flatMap_len Msg.cells 4 (fun _ => rfl)], .inr ⟨gb, cap, cs'.toArray, rfl, hb, h1, ?_, hcm, by simpa using h2, by simpa using h3⟩⟩, rfl, hf⟩
    exact Nat.le_trans (List.length_filter_le _ _) hn
end Go.Proofs.Ytjlpbhmhnniodaa
