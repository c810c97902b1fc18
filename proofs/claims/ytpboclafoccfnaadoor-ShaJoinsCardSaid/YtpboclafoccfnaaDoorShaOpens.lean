/- A slice of sums that is handed in, opened. -/
import Derived.Test.YtpboclafoccfnaaDoorShaOpen
import Derived.Test.YtpboclafoccfnaaDoorShaJoin
import Derived.Deep.Slices
import Derived.OpenShut
namespace Go.Proofs.YtpboclafoccfnaaDoor
open Go.ChangeShapes Go.WideShapes Go.ChangeAt Go.RowKit Go.ChangeMaps
open Sha
theorem arr_ints {H : Type} {enc : TypeId × Value → H} {P : Program} {w : World} {base : Nat} {sp : Nat → Bool} {held : Bool} {fuel m : Nat} {t e : TypeId} {k : IntKind} {cs : List Value} {x : DataW H × List MemPlace}
    (ht : P.underlying t = some (.array m e)) (he : P.underlying e = some (.int k)) (hce : P.cellsOf e = 1) (hct : P.cellsOf t = m) (h : DataW.trod enc P w base sp held fuel t cs = some x) :
    ∃ l : List Int, l.length = m ∧ cs = l.map (Value.int k) ∧ ∀ n ∈ l, (Lit.int k n).wf = true := by
  obtain ⟨xs, f, _, _, hl, hxl, hel⟩ := DataW.trod_array ht h
  rw [hct] at hl
  have each : ∀ i, i < m → ∃ n, cs[i]? = some (.int k n) ∧ (Lit.int k n).wf = true := fun i hi => by
    have h1 := hel i hi
    rw [hce, Nat.mul_one, List.getElem?_eq_getElem (by omega)] at h1
    rw [List.drop_eq_getElem_cons (by omega), List.take_succ_cons, List.take_zero] at h1
    obtain ⟨n, hv, _, hw⟩ := DataW.trod_int he h1
    injection hv with hv
    exact ⟨n, by rw [List.getElem?_eq_getElem (by omega), hv], hw⟩
  refine ⟨cs.map fun v => match v with | .int _ n => n | _ => 0, by simpa using hl, ?_, ?_⟩
  · rw [List.map_map]
    refine (List.map_id cs).symm.trans (List.map_congr_left fun v hv => ?_)
    obtain ⟨i, hi, rfl⟩ := List.getElem_of_mem hv
    obtain ⟨n, hn, _⟩ := each i (by omega)
    rw [List.getElem?_eq_getElem hi] at hn
    injection hn with hn
    simp [hn]
  · intro n hn
    obtain ⟨v, hv, rfl⟩ := List.mem_map.1 hn
    obtain ⟨i, hi, rfl⟩ := List.getElem_of_mem hv
    obtain ⟨n, hn, hw⟩ := each i (by omega)
    rw [List.getElem?_eq_getElem hi] at hn
    injection hn with hn
    rw [hn]
    exact hw
theorem flat_get : ∀ (n : Nat) (f : Nat → List Int) (_ : ∀ i, i < n → (f i).length = 32) (i j : Nat), i < n → j < 32 → ((List.range n).map f).flatten[i * 32 + j]? = (f i)[j]?
  | 0, _, _, _, _, hi, _ => by omega
  | n + 1, f, h, i, j, hi, hj => by
    have hl : ((List.range n).map f).flatten.length = n * 32 := by
      rw [flat_len _ (by intro l hl; obtain ⟨k, hk, rfl⟩ := List.mem_map.1 hl; exact h k (by have := List.mem_range.1 hk; omega))]; simp
    rw [List.range_succ, List.map_append, List.flatten_append]
    rcases Nat.lt_or_ge i n with hin | hin
    · rw [List.getElem?_append_left (by omega)]
      exact flat_get n f (fun i hi => h i (by omega)) i j hin hj
    · obtain rfl : i = n := by omega
      rw [List.getElem?_append_right (by omega), hl, Nat.add_sub_cancel_left]
      simp
theorem sums_of {H : Type} {enc : TypeId × Value → H} {P : Program} {W : World} {base : Nat} {t e b : TypeId} {v : Value} {d : DataW H} {ps : List MemPlace} (ht : P.underlying t = some (.slice e)) (he : P.underlying e = some (.array 32 b)) (hb : P.underlying b = some (.int .u8))
    (hce : P.cellsOf e = 32) (hcb : P.cellsOf b = 1) (hv : Value.okWide P W .any base t v) (h : DataW.Trod enc P W 0 (fun _ => true) true t v d ps) :
    ∃ (A : Option Addr) (c : Nat) (ls : List (List Int)), v = .slice A ls.length c ∧ Sums W A ls ∧ ls.length ≤ c ∧ (A = none → c = 0) := by
  obtain ⟨A, n, c0, rfl⟩ := okWide_slice ht hv
  obtain ⟨fuel, hf⟩ := h
  rcases Deep.open_slice ht hf with ⟨h1, hx⟩ | ⟨a, len, cap, m, f, D, Pl, h1, _, hlc, _, hm, _, hel⟩
  · simp only [Value.cells, List.cons.injEq, Value.slice.injEq, and_true] at h1
    obtain ⟨rfl, rfl, rfl⟩ := h1
    exact ⟨none, 0, [], rfl, ⟨by simp, .inl rfl⟩, Nat.le_refl _, fun _ => rfl⟩
  · simp only [Value.cells, List.cons.injEq, Value.slice.injEq, and_true] at h1
    obtain ⟨rfl, rfl, rfl⟩ := h1
    simp only [if_true] at hm
    obtain rfl : c0 = m := hm.symm
    rw [hce] at hel
    obtain ⟨L, hL⟩ := Deep.choose_lt (α := List Int) (n := n) (p := fun i l => l.length = 32 ∧ (∀ x ∈ l, 0 ≤ x ∧ x < 256) ∧ ∀ j, j < 32 → W.cell? (a.add (i * 32 + j)) = (l.map (Value.int .u8))[j]?) (fun i hi => by
      obtain ⟨cs', h1, h2⟩ := hel i (by omega)
      obtain ⟨l, hl, rfl, hw⟩ := arr_ints he hb hcb hce h2
      obtain ⟨_, _, hc⟩ := World.cells?_some h1
      refine ⟨l, hl, fun x hx => ?_, fun j hj => ?_⟩
      · have := bounds_u8 (hw x hx); omega
      · rw [← hc j hj, Deep.add_add])
    refine ⟨some a, c0, (List.range n).map L, by simp, ⟨fun l hl => ?_, ?_⟩, by simpa using hlc, fun h => by cases h⟩
    · obtain ⟨i, hi, rfl⟩ := List.mem_map.1 hl
      exact ⟨(hL i (List.mem_range.1 hi)).1, (hL i (List.mem_range.1 hi)).2.1⟩
    · rcases Nat.eq_zero_or_pos n with rfl | hn
      · exact .inl rfl
      · have hs0 : W.cell? (a.add 0) = ((L 0).map (Value.int .u8))[0]? := (hL 0 hn).2.2 0 (by decide)
        rw [List.getElem?_eq_getElem (by rw [List.length_map, (hL 0 hn).1]; decide)] at hs0
        have hsp : a.spot = none := spot_none (a := a.add 0) hs0
        have hblk : a.block < W.heap.size := World.block_lt_of_cell? W _ hs0
        obtain ⟨b, o, sp⟩ := a
        simp only at hsp
        subst hsp
        refine .inr ⟨b, o, rfl, hblk, fun j u hu => ?_⟩
        have hlen : ((List.range n).map L).flatten.length = n * 32 := by
          rw [flat_len _ (by intro l hl; obtain ⟨k, hk, rfl⟩ := List.mem_map.1 hl; exact (hL k (List.mem_range.1 hk)).1)]; simp
        have hj : j < n * 32 := by
          have := (List.getElem?_eq_some_iff.1 hu).1
          rw [List.length_map, hlen] at this
          exact this
        have h3 := (hL (j / 32) (by omega)).2.2 (j % 32) (by omega)
        rw [List.getElem?_map, ← flat_get n L (fun i hi => (hL i hi).1) (j / 32) (j % 32) (by omega) (by omega), show j / 32 * 32 + j % 32 = j by omega, ← List.getElem?_map, hu, Addr.add_mid] at h3
        exact h3
theorem cells23 : Tryd.prog.cellsOf 23 = 32 := by kernel_rfl
end Go.Proofs.YtpboclafoccfnaaDoor
