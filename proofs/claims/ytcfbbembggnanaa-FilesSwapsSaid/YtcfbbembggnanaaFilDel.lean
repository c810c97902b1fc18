/- slices.DeleteFunc, IndexFunc at names. -/
import Derived.Test.YtcfbbembggnanaaFilSorted
import Derived.Shelf.Abstract
namespace Go.Proofs.Ytcfbbembggnanaa
open Go.RowKit Go.Maps
set_option maxHeartbeats 1000000 in
theorem idxKey_any (w : World) (A : Option Addr) (c : Nat) (ms : List Key) (g : FuncId) (lb : Array Value) (p : Key → Bool) (eg : ∀ args w, (callFunc g args).run Try.prog w = .ok (.enter g args) w) (h : ARow w w.heap.size A (ms.map KV)) (hl : ms.length ≤ 4611686018427387904)
    (hp : ∀ W, Fr w.heap.size [] w W → ∀ m ∈ ms, Calls Try.prog g (#[KV m] ++ lb) W fun e w' => e = .returned (.bool (p m)) ∧ Fr W.heap.size [] W w') :
    Calls Try.prog 50 #[.slice A ms.length c, .func (.func g) #[] lb] w fun e w' => (((∀ m ∈ ms, p m = false) ∧ e = .returned (.int .i64 (-1))) ∨ ∃ (k : Nat) (hk : k < ms.length), e = .returned (.int .i64 (k : Int)) ∧ p ms[k] = true ∧ ∀ m ∈ ms.take k, p m = false) ∧ Fr w.heap.size [] w w' := by
  go_enter Try.func50, Try.ntmps50
  go_wp2
  go_loopw [8] (fun i wr => ∃ k : Nat, k ≤ ms.length ∧ i = .int .i64 (k : Int) ∧ Fr w.heap.size [] w wr ∧ ∀ m ∈ ms.take k, p m = false) (fun i _ => ms.length - (intOf i).toNat)
  case atStart => exact ⟨0, by omega, rfl, Fr.refl _ _ _, by simp⟩
  case round =>
    obtain ⟨k, hk, rfl, hF, hno⟩ := hrel
    by_cases hlt : k < ms.length
    · obtain ⟨x, hx⟩ : ∃ x, Hid (x = ms[k]'hlt) := ⟨ms[k]'hlt, rfl⟩
      have hki : (k : Int) < ms.length := by omega
      obtain ⟨blk, o, rfl, hb, d0⟩ := name_of (h.fr hF (Nat.le_refl _) (by simp)) k hlt
      rw [← hx.out] at d0
      have hc := hp wr hF x (by rw [hx.out]; exact List.getElem_mem _)
      obtain ⟨s, hs⟩ : ∃ s : ByteArray, KV x = .string s := ⟨_, rfl⟩
      rw [hs] at d0 hc
      obtain ⟨b, hpb⟩ : ∃ b, p x = b := ⟨_, rfl⟩
      rw [hpb] at hc
      clear hp hs
      cases b
      · go_wp2_with (go_at_fn g; (refine hc.mono ?_); rintro e w2 ⟨rfl, f2⟩)
        go_roundw
        case rel =>
          refine ⟨k + 1, by omega, by go_num, hF.trans (f2.mono hF.size (by simp)), fun m hm => ?_⟩
          rw [List.take_succ_eq_append_getElem hlt, List.mem_append] at hm
          rcases hm with hm | hm
          · exact hno m hm
          · simp only [List.mem_singleton] at hm
            rw [hm, ← hx.out]; exact hpb
        case measure => simp [intOf]; omega
      · go_wp2_with (go_at_fn g; (refine hc.mono ?_); rintro e w2 ⟨rfl, f2⟩)
        go_ret
        exact ⟨.inr ⟨k, hlt, rfl, by rw [← hx.out]; exact hpb, hno⟩, hF.trans (f2.mono hF.size (by simp))⟩
    · have hki : ¬ ((k : Int) < ms.length) := by omega
      go_wp2
      go_ret
      refine ⟨.inl ⟨fun m hm0 hm => hno ⟨m, hm0⟩ (by rw [List.take_of_length_le (by omega)]; exact hm), rfl⟩, hF⟩
/-- clear(s) on a part of a block that is known whole. -/
theorem zeroCells_len (zs : Array Value) (n : Nat) : (Builtin.zeroCells zs n).toList.length = n * zs.size := by simp [Builtin.zeroCells]
theorem zeroCells_mem (zs : Array Value) (n : Nat) (hz : ∀ v ∈ zs, v.oneCell' = true) (h0 : 0 < zs.size) : ∀ v ∈ (Builtin.zeroCells zs n).toList, v.oneCell' = true := by
  intro v hv
  simp only [Builtin.zeroCells, Array.toList_map, List.mem_map, Array.toList_range] at hv
  obtain ⟨i, _, rfl⟩ := hv
  have hm : i % zs.size < zs.size := Nat.mod_lt _ h0
  rw [getElem!_pos zs (i % zs.size) hm]
  exact hz _ (Array.getElem_mem hm)
theorem run_clear_has {P : Program} (w : World) (t e : TypeId) (z : Value) (ht : P.underlying t = some (.slice e)) (hv : ∀ w, (zeroValue e).run P w = .ok z w) (h0 : 0 < z.cells.size) (h1 : ∀ v ∈ z.cells, v.oneCell' = true)
    (g o n : Nat) (tt : TypeId) (cs : List Value) (h : Has w g tt cs) (hn : 0 < n) (hfit : o + n * z.cells.size ≤ cs.length) :
    ∃ w', (∀ ty c, (Builtin.clear_ #[t] ty #[.slice (some ⟨g, o, none⟩) n c]).run P w = .ok (.tuple #[]) w') ∧ Has w' g tt (cs.take o ++ (Builtin.zeroCells z.cells n).toList ++ cs.drop (o + n * z.cells.size)) ∧ One g w w' := by
  have hlen := zeroCells_len z.cells n
  obtain ⟨h2, h3⟩ := setCells_has (Builtin.zeroCells z.cells n).toList o w cs h (by rw [hlen]; exact hfit)
  rw [hlen] at h2
  refine ⟨_, fun ty c => ?_, h2, h3⟩
  have hst := run_storeCells_cells (P := P) g o (Builtin.zeroCells z.cells n).toList 0 w (fun j hj => by rw [Nat.add_zero, h.cell, List.getElem?_eq_getElem (by omega)]; rfl) (fun j hj => h.frozen _) (zeroCells_mem z.cells n h1 h0)
  simp only [Nat.add_zero] at hst
  obtain ⟨m, rfl⟩ : ∃ m, n = m + 1 := ⟨n - 1, by omega⟩
  simp [Builtin.clear_, run_underlying ht, hv, hst]
theorem key_rest {ks : List Value} {ms : List Key} {j : Nat} (h : (ks.drop j).take (ms.length - j) = (ms.drop j).map KV) (hj : j < ms.length) : ks[j]? = some (KV ms[j]) ∧ (ks.drop (j + 1)).take (ms.length - (j + 1)) = (ms.drop (j + 1)).map KV := by
  rw [List.drop_eq_getElem_cons hj, List.map_cons] at h
  constructor
  · have h1 := congrArg (·[0]?) h
    rw [List.getElem?_take] at h1
    split at h1
    · rw [List.getElem?_drop] at h1
      exact h1
    · exact absurd h1 (by simp)
  · have h1 := congrArg (List.drop 1) h
    rw [List.drop_take, List.drop_drop] at h1
    rw [show ms.length - (j + 1) = ms.length - j - 1 by omega]
    exact h1
theorem set_take {α : Type} {ks : List α} {i : Nat} {a : α} (h : i < ks.length) : (ks.set i a).take (i + 1) = ks.take i ++ [a] := by
  rw [List.take_succ_eq_append_getElem (by simpa using h), List.take_set, List.set_eq_of_length_le (by simp; omega)]
  simp
theorem zeroS : ∀ W : World, (zeroValue 9).run Try.prog W = .ok (.string ByteArray.empty) W := Try.zeroValue9
set_option maxHeartbeats 2000000 in
set_option maxRecDepth 100000 in
theorem del_some (w : World) (gb cap : Nat) (ms : List Key) (g : FuncId) (lb : Array Value) (p : Key → Bool) (eg : ∀ args w, (callFunc g args).run Try.prog w = .ok (.enter g args) w)
    (cs : List Value) (H : Has w gb 9 cs) (hcap : cs.length = cap) (hn : ms.length ≤ cap) (hcs : cs.take ms.length = ms.map KV) (hl : ms.length ≤ 4611686018427387904)
    (hp : ∀ W, Fr w.heap.size [gb] w W → ∀ m ∈ ms, Calls Try.prog g (#[KV m] ++ lb) W fun e w' => e = .returned (.bool (p m)) ∧ Fr W.heap.size [] W w') :
    Calls Try.prog 36 #[.slice (some ⟨gb, 0, none⟩) ms.length cap, .func (.func g) #[] lb] w fun e w' => e = .returned (.slice (some ⟨gb, 0, none⟩) (ms.filter fun m => !p m).length cap) ∧
      (∃ cs', Has w' gb 9 cs' ∧ cs'.length = cap ∧ cs'.take (ms.filter fun m => !p m).length = (ms.filter fun m => !p m).map KV) ∧ Fr w.heap.size [gb] w w' := by
  have hgl := H.lt
  have hrow : ARow w w.heap.size (some ⟨gb, 0, none⟩) (ms.map KV) := .inr ⟨gb, 0, rfl, hgl, fun j v hv => by
    rw [Nat.zero_add, H.cell]
    rw [← hcs, List.getElem?_take] at hv
    split at hv
    · exact hv
    · cases hv⟩
  have hix := idxKey_any w (some ⟨gb, 0, none⟩) cap ms g lb p eg hrow hl (fun W hW m hm => hp W (hW.mono (Nat.le_refl _) (by simp)) m hm)
  go_enter Try.func36, Try.ntmps36
  go_wp2_with (go_at_call 50; (refine hix.mono ?_); rintro e w1 ⟨⟨hno, rfl⟩ | ⟨k, hk, rfl, hpk, hbef⟩, f1⟩; all_goals (try have hkb : ((k : Int) == -1) = false := by rw [beq_eq_false_iff_ne]; omega))
  · go_wp2
    go_ret
    have : ms.filter (fun m => !p m) = ms := List.filter_eq_self.2 fun m hm => by simp [hno m hm]
    rw [this]
    exact ⟨rfl, ⟨cs, H.fr f1 hgl (by simp), hcap, hcs⟩, f1.mono (Nat.le_refl _) (by simp)⟩
  · have hF1 : Fr w.heap.size [gb] w w1 := f1.mono (Nat.le_refl _) (by simp)
    have H1 := H.fr f1 hgl (by simp)
    have hk1 : (ms.take (k + 1)).filter (fun m => !p m) = ms.take k := by
      rw [List.take_succ_eq_append_getElem hk, List.filter_append, List.filter_eq_self.2 (fun m hm => by simp [hbef m hm])]
      simp [hpk]
    go_wp2
    go_loopw [5, 6] (fun i j wr => ∃ (ik jk : Nat) (ks : List Value), i = .int .i64 (ik : Int) ∧ j = .int .i64 (jk : Int) ∧ ik < jk ∧ jk ≤ ms.length ∧ ik = ((ms.take jk).filter fun m => !p m).length ∧ Fr w.heap.size [gb] w wr ∧
      Has wr gb 9 ks ∧ ks.length = cap ∧ ks.take ik = ((ms.take jk).filter fun m => !p m).map KV ∧ (ks.drop jk).take (ms.length - jk) = (ms.drop jk).map KV) (fun _ j _ => ms.length - (intOf j).toNat)
    case atStart =>
      refine ⟨k, k + 1, cs, rfl, by go_num, by omega, by omega, by rw [hk1, List.length_take]; omega, hF1, H1, hcap, ?_, ?_⟩
      · rw [hk1, List.map_take, ← hcs, List.take_take, Nat.min_eq_left (by omega)]
      · rw [List.map_drop, ← hcs, List.drop_take]
    case round =>
      obtain ⟨ik, jk, ks, rfl, rfl, hij, hjn, hik, hF, hH, hkl, hke, hrest⟩ := hrel
      by_cases hlt : jk < ms.length
      · obtain ⟨x, hx⟩ : ∃ x, Hid (x = ms[jk]'hlt) := ⟨ms[jk]'hlt, rfl⟩
        have hki : (jk : Int) < ms.length := by omega
        obtain ⟨d0, hnext⟩ := key_rest hrest hlt
        rw [← hx.out] at d0
        have hc := hp wr hF x (by rw [hx.out]; exact List.getElem_mem _)
        obtain ⟨s, hs⟩ : ∃ s : ByteArray, KV x = .string s := ⟨_, rfl⟩
        rw [hs] at d0 hc
        have e0 := (hH.cell jk).trans d0
        obtain ⟨b, hpb⟩ : ∃ b, p x = b := ⟨_, rfl⟩
        rw [hpb] at hc
        have hgl2 := hH.lt
        have hfil : (ms.take (jk + 1)).filter (fun m => !p m) = (ms.take jk).filter (fun m => !p m) ++ if b then [] else [x] := by
          rw [List.take_succ_eq_append_getElem hlt, List.filter_append, ← hx.out, List.filter_cons, hpb]
          cases b <;> rfl
        have HIK := Lib.hid hik
        have HS := Lib.hid hs
        clear hp hix d0 hik hs
        cases b
        · obtain ⟨y0, hy0⟩ : ∃ y, ks[ik]? = some y := ⟨_, List.getElem?_eq_getElem (by omega)⟩
          go_wp2_with (first
            | (go_at_fn g; (refine hc.mono ?_); rintro e w2 ⟨rfl, f2⟩; have H3 := hH.fr f2 hH.lt (by simp); have z0 := (H3.cell ik).trans hy0; have z4 := H3.frozen ik))
          have H4 := H3.set ik (.string s)
          have hF3 := hF.trans (f2.mono hF.size (by simp))
          have hF4 := hF3.setCell (p := ⟨gb, ik, none⟩) (.inl (by simp)) (.string s)
          go_roundw
          case rel =>
            refine ⟨ik + 1, jk + 1, _, by go_num, by go_num, by omega, by omega, by rw [hfil, List.length_append, ← HIK.out]; rfl, hF4, H4, by simpa using hkl, ?_, ?_⟩
            · rw [hfil, List.map_append, ← hke, set_take (by omega), ← HS.out]
              rfl
            · rw [List.drop_set_of_lt (by omega)]
              exact hnext
          case measure => simp [intOf]; omega
        · go_wp2_with (first
            | (go_at_fn g; (refine hc.mono ?_); rintro e w2 ⟨rfl, f2⟩))
          go_roundw
          case rel =>
            refine ⟨ik, jk + 1, ks, rfl, by go_num, by omega, by omega, by rw [hfil]; simpa using HIK.out, hF.trans (f2.mono hF.size (by simp)), hH.fr f2 hH.lt (by simp), hkl, ?_, hnext⟩
            rw [hfil, hke]
            simp
          case measure => simp [intOf]; omega
      · have hkn : jk = ms.length := by omega
        subst hkn
        have hki : ¬ ((ms.length : Int) < ms.length) := by omega
        rw [List.take_length] at hik hke
        have HIK := Lib.hid hik
        clear hik
        obtain ⟨w9, hcl, h9, o9⟩ := run_clear_has (P := Try.prog) wr 22 9 _ Try.underlying22 zeroS (by decide) (by intro v hv; simp [Value.cells] at hv; rcases hv with rfl | rfl <;> rfl) gb ik (ms.length - ik) 9 ks hH (by omega) (by show ik + (ms.length - ik) * 1 ≤ _; omega)
        have hA : (ks.take ik).length = ik := by rw [List.length_take]; omega
        have hZ := zeroCells_len (Value.string ByteArray.empty).cells (ms.length - ik)
        rw [show (Value.string ByteArray.empty).cells.size = 1 from rfl] at hZ h9
        go_wp2
        go_ret
        refine ⟨(show Ending.returned (Value.slice (some ⟨gb, 0, none⟩) ik cap) = _ by rw [← HIK.out]), ⟨_, h9, ?_, ?_⟩, hF.one o9 (.inl (by simp))⟩
        · rw [List.length_append, List.length_append, hA, hZ, List.length_drop]
          omega
        · rw [← HIK.out, List.append_assoc, List.take_left' hA]
          exact hke
theorem del_none (w : World) (A : Option Addr) (c : Nat) (g : FuncId) (lb : Array Value) (eg : ∀ args w, (callFunc g args).run Try.prog w = .ok (.enter g args) w) :
    Calls Try.prog 36 #[.slice A 0 c, .func (.func g) #[] lb] w fun e w' => e = .returned (.slice A 0 c) ∧ Fr w.heap.size [] w w' := by
  have hix := idxKey_any w A c [] g lb (fun _ => false) eg (.inl rfl) (by simp) (fun W hW m hm => by simp at hm)
  go_enter Try.func36, Try.ntmps36
  go_wp2_with (go_at_call 50; (refine hix.mono ?_); rintro e w1 ⟨⟨_, rfl⟩ | ⟨k, hk, _⟩, f1⟩; all_goals (try exact absurd hk (by simp)))
  go_ret
  exact ⟨rfl, f1⟩
/-- DeleteFunc on a row of the call's own. -/
theorem delKey_any (w : World) (base : Nat) (v : Value) (ms : List Key) (g : FuncId) (lb : Array Value) (p : Key → Bool) (eg : ∀ args w, (callFunc g args).run Try.prog w = .ok (.enter g args) w)
    (h : w.ownsRow base 9 1 v ms.length (ms.map KV)) (hl : ms.length ≤ 4611686018427387904)
    (hp : ∀ W, Fr w.heap.size v.ownBlock.toList w W → ∀ m ∈ ms, Calls Try.prog g (#[KV m] ++ lb) W fun e w' => e = .returned (.bool (p m)) ∧ Fr W.heap.size [] W w') :
    Calls Try.prog 36 #[v, .func (.func g) #[] lb] w fun e w' => ∃ v', e = .returned v' ∧ w'.ownsRow base 9 1 v' (ms.filter fun m => !p m).length ((ms.filter fun m => !p m).map KV) ∧ v'.ownBlock = v.ownBlock ∧ Fr w.heap.size v.ownBlock.toList w w' := by
  have hlen := h.1
  rcases h.2 with ⟨rfl, h0⟩ | ⟨gb, cap, cur, rfl, hb, hg, hn, hcm, hcs, htk⟩
  · obtain rfl : ms = [] := List.eq_nil_of_length_eq_zero h0
    refine (del_none w none 0 g lb eg).mono fun e w' ⟨he, hf⟩ => ⟨_, he, ⟨rfl, .inl ⟨rfl, rfl⟩⟩, rfl, hf⟩
  · have hH : Has w gb 9 cur.toList := by unfold Has; rw [hg]
    rw [Nat.mul_one] at hcs htk
    refine (del_some w gb cap ms g lb p eg cur.toList hH (by simpa using hcs) hn htk hl hp).mono fun e w' ⟨he, ⟨cs', h1, h2, h3⟩, hf⟩ => ⟨_, he, ⟨by simp, .inr ⟨gb, cap, cs'.toArray, rfl, hb, h1, ?_, hcm, by simpa using h2, by simpa using h3⟩⟩, rfl, hf⟩
    exact Nat.le_trans (List.length_filter_le _ _) hn
end Go.Proofs.Ytcfbbembggnanaa
