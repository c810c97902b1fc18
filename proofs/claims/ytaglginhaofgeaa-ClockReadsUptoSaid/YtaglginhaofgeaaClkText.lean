/- Text. -/
import Derived.Test.YtaglginhaofgeaaClkBytes
namespace Go.Proofs.Ytaglginhaofgeaa
open Go.RowKit Go.Shelf
open Ck Pk
/-- A builder whose row lies at or beyond B. -/
def BldB (T : TypeId) (b B : Nat) (l : List UInt8) (w : World) : Prop :=
  B ≤ w.heap.size ∧ b < w.heap.size ∧ ∃ p v, (p = .pointer none ∨ p = .pointer (some ⟨b, 0, none⟩)) ∧ w.heap[b]? = some (.cells #[p, v] T (0, 0)) ∧ w.ownsRowF B 5 1 v l.length (Lib.byteCells l) ∧ (l = [] → v = .slice none 0 0)
def BldBU (T : TypeId) (b B : Nat) (l : List UInt8) (w : World) : Prop :=
  B ≤ w.heap.size ∧ b < w.heap.size ∧ ∃ v, w.heap[b]? = some (.cells #[.pointer (some ⟨b, 0, none⟩), v] T (0, 0)) ∧ w.ownsRowF B 5 1 v l.length (Lib.byteCells l) ∧ (l = [] → v = .slice none 0 0)
theorem copyB_any {T : TypeId} (hT : BT T) (b B : Nat) (l : List UInt8) (w : World) (h : BldB T b B l w) :
    Calls Try.prog 73 #[.pointer (some ⟨b, 0, none⟩)] w fun e w' => e = .returned (.tuple #[]) ∧ BldBU T b B l w' ∧ Fr B [b] w w' := by
  obtain ⟨hB, hbl, p, v, hp, hb, ho, h0⟩ := h
  have hne := Lib.ownBlock_neF ho hb hT.ne5
  rcases hp with rfl | rfl
  · refine (copy_fresh hT b w (by rw [Lib.cell_of_heap hb]; rfl) (by simp [World.shape?, hb]) (Lib.frozen_of_heap hb 0)).mono ?_
    rintro e w' ⟨rfl, rfl⟩
    refine ⟨rfl, ⟨by simpa using hB, by simpa using hbl, v, ?_, ?_, h0⟩, (Fr.refl B [b] w).setCell (.inl (by simp)) _⟩
    · simp [World.setCell, Array.getElem?_modify, hb]
    · exact ho.kept (row := some b) ⟨rfl, rfl, rfl, by simp [World.setCell], fun k _ hk => Below.heap_setCell _ _ _ _ (fun e => hk (by simp [e]))⟩ (Or.inr hne)
  · refine (copy_used b w (by rw [Lib.cell_of_heap hb]; rfl)).mono ?_
    rintro e w' ⟨rfl, rfl⟩
    exact ⟨rfl, ⟨hB, hbl, v, hb, ho, h0⟩, Fr.refl _ _ _⟩
theorem bldB_put {T : TypeId} (hT : BT T) {b B : Nat} {v v' : Value} {l : List UInt8} {w : World} (hB : B ≤ w.heap.size) (hbl : b < w.heap.size) (hb : w.heap[b]? = some (.cells #[.pointer (some ⟨b, 0, none⟩), v] T (0, 0))) (ho : w.ownsRowF B 5 1 v' l.length (Lib.byteCells l)) (h0 : l = [] → v' = .slice none 0 0) :
    BldB T b B l (w.setCell ⟨b, 1, none⟩ v') := by
  have hne := Lib.ownBlock_neF ho hb hT.ne5
  refine ⟨by simpa using hB, by simpa using hbl, _, v', .inr rfl, ?_, ?_, h0⟩
  · simp [World.setCell, Array.getElem?_modify, hb]
  · exact ho.kept (row := some b) ⟨rfl, rfl, rfl, by simp [World.setCell], fun k _ hk => Below.heap_setCell _ _ _ _ (fun e => hk (by simp [e]))⟩ (Or.inr hne)
set_option maxHeartbeats 2000000 in
set_option maxRecDepth 100000 in
theorem wbyteB_any {T : TypeId} (hT : BT T) (b B : Nat) (l : List UInt8) (c : Int) (w : World) (h : BldB T b B l w) (hlen : l.length + 1 ≤ 140737488355328) (hc0 : 0 ≤ c) (hc1 : c < 256) :
    Calls Try.prog 57 #[.pointer (some ⟨b, 0, none⟩), .int .u8 c] w fun e w' => e = .returned .nilIface ∧ BldB T b B (l ++ [UInt8.ofNat c.toNat]) w' ∧ Fr B [b] w w' := by
  obtain ⟨i0, hi, hz0, hz1, hz2⟩ := info_parts infoByte
  have hlt0 := h.1
  go_enter Try.func57, Try.ntmps57
  go_wp2_with (go_at_call 73; refine (copyB_any hT b B l _ h).mono ?_)
  rintro e w1 ⟨rfl, h1, hF1⟩
  obtain ⟨hB1, hbl1, v, hbk, hown, hv0⟩ := h1
  have hne := Lib.ownBlock_neF hown hbk hT.ne5
  have c0 : w1.cell? ⟨b, 0, none⟩ = some (.pointer (some ⟨b, 0, none⟩)) := by rw [Lib.cell_of_heap hbk]; rfl
  have c1 : w1.cell? ⟨b, 1, none⟩ = some v := by rw [Lib.cell_of_heap hbk]; rfl
  have Hv0 := Lib.hid hv0
  clear hv0
  go_wp2_with (at_builtin; refine wpList_append_ownF _ rfl _ _ 75 rfl B 5 i0 (.int .u8 0) 1 1 Try.underlying75 hi hz0 hz1 hz2 rfl (by decide) _ _ _ rfl (hown.alloc _) ⟨w1.heap.size, 0, none⟩ 1 1 [.int .u8 c] rfl rfl ?c1 ?c2 ?c3 ?c4 ?c5 ?_)
  case c1 =>
    intro j u hj
    match j, hj with
    | 0, hj => simp at hj; subst hj; simp [Addr.add]
  case c2 => intro u hu; simp at hu; subst hu; rfl
  case c3 => unfold maxLen; omega
  case c4 => omega
  case c5 => simp; omega
  intro v' w2 hown' hgrow _
  have hb2 : w2.heap[b]? = some (.cells #[.pointer (some ⟨b, 0, none⟩), v] T (0, 0)) := by
    rw [hgrow.block b (by simp; omega) (fun e => hne e.symm), Lib.alloc_old w1 _ b hbl1]
    exact hbk
  have d0 : w2.cell? ⟨b, 0, none⟩ = some (.pointer (some ⟨b, 0, none⟩)) := by rw [Lib.cell_of_heap hb2]; rfl
  have d1 : w2.cell? ⟨b, 1, none⟩ = some v := by rw [Lib.cell_of_heap hb2]; rfl
  have f1 : w2.frozen? ⟨b, 1, none⟩ = false := Lib.frozen_of_heap hb2 1
  obtain ⟨g, cap, rfl⟩ : ∃ g cap, v' = .slice (some ⟨g, 0, none⟩) (l.length + 1) cap := by
    rcases hown'.2 with ⟨_, h0⟩ | ⟨g, cap, cur, fz, hv, _⟩
    · omega
    · exact ⟨g, cap, hv⟩
  go_wp2
  go_ret
  have hbs : Lib.byteCells (l ++ [UInt8.ofNat c.toNat]) = Lib.byteCells l ++ [.int .u8 c] := by
    rw [byteCells_app]
    have : ((UInt8.ofNat c.toNat).toNat : Int) = c := by rw [UInt8.toNat_ofNat']; omega
    simp [Lib.byteCells, -UInt8.toNat_ofNat', this]
  have hsz := hgrow.size
  simp only [World.size_alloc] at hsz
  refine ⟨rfl, ?_, ?_⟩
  · refine bldB_put hT (by omega) (by omega) hb2 (by rw [hbs]; simpa using hown') (fun h => by simp at h)
  · exact ((hF1.alloc hB1 _).grown hgrow (by simp; omega) (fun k hk => .inr (hown.lt k hk).1)).setCell (p := ⟨b, 1, none⟩) (.inl (by simp)) _
theorem BldB.bld {T : TypeId} {b B : Nat} {l : List UInt8} {w : World} (h : BldB T b B l w) (hb : b ≤ B) : Bld T b l w := by
  obtain ⟨_, _, p, v, h1, h2, h3, h4⟩ := h
  refine ⟨p, v, h1, h2, ⟨h3.1, ?_⟩, h4⟩
  rcases h3.2 with h | ⟨g, cap, cur, fz, a1, a2, a3⟩
  · exact .inl h
  · exact .inr ⟨g, cap, cur, fz, a1, by omega, a3⟩
def Ck.hexD (n : Nat) : UInt8 := if n < 10 then UInt8.ofNat (48 + n) else UInt8.ofNat (87 + n)
def Ck.hexB (l : List UInt8) : List UInt8 := l.flatMap fun x => [hexD (x.toNat / 16), hexD (x.toNat % 16)]
theorem hexD_lt (n : Nat) : 0 ≤ ((hexD n).toNat : Int) ∧ ((hexD n).toNat : Int) < 256 := by have := (hexD n).toNat_lt; omega
theorem hexD_eq (x : Int) (h0 : 0 ≤ x) (h1 : x < 16) (h : x.toNat < (⟨#[48, 49, 50, 51, 52, 53, 54, 55, 56, 57, 97, 98, 99, 100, 101, 102]⟩ : ByteArray).size) :
    (((⟨#[48, 49, 50, 51, 52, 53, 54, 55, 56, 57, 97, 98, 99, 100, 101, 102]⟩ : ByteArray)[x.toNat]'h).toNat : Int) = ((hexD x.toNat).toNat : Int) := by
  have : ∀ i : Fin 16, (((⟨#[48, 49, 50, 51, 52, 53, 54, 55, 56, 57, 97, 98, 99, 100, 101, 102]⟩ : ByteArray)[i.val]'(show i.val < 16 from i.isLt)).toNat : Int) = ((hexD i.val).toNat : Int) := by decide +kernel
  exact this ⟨x.toNat, by omega⟩
theorem and15 (x : Int) (h0 : 0 ≤ x) (h1 : x < 256) : bits .and .u8 x 15 = x % 16 := by
  have : ∀ i : Fin 256, bits .and .u8 (i.val : Int) 15 = (i.val : Int) % 16 := by decide +kernel
  have h2 := this ⟨x.toNat, by omega⟩
  rw [show ((⟨x.toNat, by omega⟩ : Fin 256).val : Int) = x from Int.toNat_of_nonneg h0] at h2
  exact h2
theorem hexB_take (l : List UInt8) (k : Nat) (hk : k < l.length) : hexB (l.take (k + 1)) = hexB (l.take k) ++ [hexD (l[k].toNat / 16)] ++ [hexD (l[k].toNat % 16)] := by
  rw [List.take_succ_eq_append_getElem hk]
  unfold hexB
  rw [List.flatMap_append]
  simp
theorem hexB_len (l : List UInt8) : (hexB l).length = 2 * l.length := by
  unfold hexB
  induction l with
  | nil => rfl
  | cons x l ih => rw [List.flatMap_cons, List.length_append, ih]; simp; omega
theorem bytesRow_cell (w : World) (l : List UInt8) (cap : Nat) (e : TypeId) (fz : Nat × Nat) (k : Nat) (hk : k < l.length) : (w.alloc (.cells (bytesRow ⟨l.toArray⟩ cap) e fz)).cell? ⟨w.heap.size, k, none⟩ = some (.int .u8 (l[k].toNat : Int)) := by
  have h1 : (bytesRow ⟨l.toArray⟩ cap)[k]? = some (.int .u8 (l[k].toNat : Int)) := by
    unfold bytesRow
    rw [Array.getElem?_append_left (by simpa using hk)]
    simp [hk]
  rw [Lib.cell_of_heap (heap_alloc_new w _)]
  exact h1
theorem clkB_len {out : List Dot} (h : out.length ≤ 100000000000) (hok : ∀ d ∈ out, d.ok) : (clkB out).length ≤ 2000000000010 := by
  have h1 := numB_len10 (n := out.length) (by omega)
  have h2 : ∀ l : List Dot, (∀ d ∈ l, d.ok) → (l.flatMap dotB).length ≤ 20 * l.length := by
    intro l hl
    induction l with
    | nil => simp
    | cons x l ih =>
      rw [List.flatMap_cons, List.length_append, List.length_cons]
      have h3 := ih fun d hd => hl d (List.mem_cons_of_mem _ hd)
      have h4 := dotB_len (hl x List.mem_cons_self)
      omega
  have h3 := h2 out hok
  unfold clkB
  rw [List.length_append]
  omega
theorem Ck.Canon.ok {out ds : List Dot} (h : Canon out ds) (hok : ∀ d ∈ ds, d.ok) : ∀ d ∈ out, d.ok := fun d hd => by
  have h1 := h.says d hd
  rcases getN_ex ds d.a with h0 | ⟨x, hx, hxa, hxn⟩
  · omega
  · have := hok x hx
    unfold Dot.ok at this ⊢
    rw [hxa, hxn, ← h1.2] at this
    exact this
theorem conv_bytes (w : World) (l : List UInt8) : ∃ cap W2, (convert 9 75 (.string ⟨l.toArray⟩)).run Try.prog w = .ok (.slice (some ⟨w.heap.size, 0, none⟩) l.length cap) W2 ∧ (∀ k (hk : k < l.length), W2.cell? ⟨w.heap.size, k, none⟩ = some (.int .u8 (l[k].toNat : Int))) ∧ Fr w.heap.size [] w W2 ∧ W2.heap.size = w.heap.size + 1 := by
  have hsz : (⟨l.toArray⟩ : ByteArray).size = l.length := by simp [ByteArray.size]
  have h := run_bytes_of_string (P := Try.prog) w 9 75 5 ⟨l.toArray⟩ Try.underlying9 Try.underlying75 Try.underlying5
  rw [hsz] at h
  have hd : w.drew.heap.size = w.heap.size := rfl
  exact ⟨_, _, h, fun k hk => bytesRow_cell w.drew l _ 5 _ k hk, (Fr.refl w.heap.size [] w).drew.alloc (Nat.le_refl _) _, by rw [World.size_alloc, hd]⟩
set_option maxHeartbeats 2000000 in
set_option maxRecDepth 100000 in
theorem text_any (w : World) (v : Value) (ds out : List Dot) (hds : ds.length ≤ 100000000000) (hok : ∀ d ∈ ds, d.ok) (hI : ClkIn w v ds) (ho : Canon out ds) (hol : out.length ≤ ds.length) :
    Calls Try.prog 21 #[v] w fun e w' => e = .returned (.string ⟨(hexB (clkB out)).toArray⟩) ∧ Fr w.heap.size [] w w' := by
  have hb : ∀ W, Fr w.heap.size [] w W → Calls Try.prog 20 #[v] W _ := fun W hW => bytes_any W v ds out hds hok (clkIn_fr hI hW) ho
  have hll := clkB_len (by omega) (ho.ok hok)
  obtain ⟨A, c, rfl, _⟩ := hI
  obtain ⟨l, hl⟩ : ∃ l, clkB out = l := ⟨_, rfl⟩
  rw [hl] at hb hll ⊢
  go_enter Try.func21, Try.ntmps21
  go_wp2_with (first
    | (go_at_call 20; (refine (hb _ ((Fr.refl _ _ _).alloc (Nat.le_refl _) _)).mono ?_); rintro e w1 ⟨rfl, f1⟩))
  obtain ⟨cap, W2, hcv, hcell, hF1, hs2⟩ := conv_bytes w1 l
  rw [hcv]
  simp only [Result.andThen]
  rw [Oper.upon_value]
  clear hb hcv
  have f1s := f1.size
  simp only [World.size_alloc] at f1s
  have hF2 : Fr w.heap.size [] w W2 := (((Fr.refl w.heap.size [] w).alloc (Nat.le_refl _) _).trans (f1.mono (by simp) (by simp))).trans (hF1.mono (by omega) (by simp))
  have hB0 : BldB 82 w.heap.size (w1.heap.size + 1) [] W2 := by
    have h1 : w1.heap[w.heap.size]? = some (.cells #[.pointer none, .slice none 0 0] 82 (0, 0)) := by
      rw [f1.block _ (by simp) (by simp)]
      exact heap_alloc_new w _
    exact ⟨by omega, by omega, .pointer none, .slice none 0 0, .inl rfl, (hF1.block _ (by omega) (by simp)).trans h1, World.ownsRowF_nil _ _ _ _, fun _ => rfl⟩
  go_wp2
  go_loopw [10] (fun i wr => ∃ k : Nat, k ≤ l.length ∧ i = .int .i64 (k : Int) ∧ BldB 82 w.heap.size (w1.heap.size + 1) (hexB (l.take k)) wr ∧ Fr (w1.heap.size + 1) [w.heap.size] W2 wr) (fun i _ => l.length - (intOf i).toNat)
  case atStart => exact ⟨0, by omega, rfl, by simpa [hexB] using hB0, Fr.refl _ _ _⟩
  case round =>
    obtain ⟨k, hk, rfl, hB, hF⟩ := hrel
    by_cases hlt : k < l.length
    · obtain ⟨x, hx⟩ : ∃ x : Int, Hid (x = (l[k]'hlt).toNat) := ⟨_, rfl⟩
      have hc := (hF.cell (p := ⟨w1.heap.size, k, none⟩) (by show w1.heap.size < _; omega) (by simp; omega)).trans (hcell k hlt)
      rw [← hx.out] at hc
      have x0 : 0 ≤ x := by rw [hx.out]; omega
      have x1 : x < 256 := by rw [hx.out]; have := (l[k]'hlt).toNat_lt; omega
      have hand := and15 x x0 x1
      have d0 : x / 16 < 16 := by omega
      have d1 : 0 ≤ x / 16 := by omega
      have d2 : x % 16 < 16 := by omega
      have d3 : 0 ≤ x % 16 := by omega
      have hki : (k : Int) < l.length := by omega
      have hlh := hexB_len (l.take k)
      rw [List.length_take] at hlh
      go_wp2_with (first
        | (go_at_call 57; (refine (wbyteB_any btB _ _ _ _ _ h5 (by rw [List.length_append]; simp; omega) (by rw [hexD_eq _ d3 d2]; exact (hexD_lt _).1) (by rw [hexD_eq _ d3 d2]; exact (hexD_lt _).2)).mono ?_); rintro e w6 ⟨rfl, h6, g6⟩)
        | (go_at_call 57; (refine (wbyteB_any btB _ _ _ _ _ hB (by omega) (by rw [hexD_eq _ d1 d0]; exact (hexD_lt _).1) (by rw [hexD_eq _ d1 d0]; exact (hexD_lt _).2)).mono ?_); rintro e w5 ⟨rfl, h5, g5⟩))
      go_roundw
      case rel =>
        refine ⟨k + 1, by omega, by go_num, ?_, hF.trans (g5.trans g6)⟩
        rw [hexB_take l k hlt]
        have e1 : (x / 16).toNat = (l[k]'hlt).toNat / 16 := by rw [hx.out]; omega
        have e2 : (x % 16).toNat = (l[k]'hlt).toNat % 16 := by rw [hx.out]; omega
        rw [hexD_eq _ d1 d0, hexD_eq _ d3 d2, e1, e2] at h6
        simpa using h6
      case measure => simp [intOf]; omega
    · have hkn : k = l.length := by omega
      have hki : ¬ ((k : Int) < l.length) := by omega
      rw [hkn, List.take_length] at hB
      go_wp2_with (go_at_call 58; (refine (bstr_any btB _ _ _ (hB.bld (by omega))).mono ?_); rintro e w5 ⟨rfl, h5, g5⟩)
      go_ret
      refine ⟨rfl, ?_⟩
      exact (hF2.trans (hF.mono (by omega) (by simp))).below g5.below (Nat.le_refl _)
end Go.Proofs.Ytaglginhaofgeaa
