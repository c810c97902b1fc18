/- Things, numbers, texts that are handed in: opened, with the bound on their bulk. -/
import Derived.Test.YtpcbkkccaahdbaaBulk
import Derived.Test.YtpcbkkccaahdbaaPackThings
namespace Go.Proofs.Ytpcbkkccaahdbaa
open Go.ChangeShapes Go.WideShapes Go.ChangeAt Go.RowKit Go.ChangeMaps
open Pk
theorem thB_len (t : Th) (h : t.n < 18446744073709551616) (hs : t.s.size < 18446744073709551616) : (thB t).length ≤ 20 + t.s.size := by
  have hsz : t.s.data.toList.length = t.s.size := by simp
  unfold thB
  split
  · have hr := sgn_rng t.n
    have := numB_len10 (zig_lt hr.1 hr.2)
    unfold intB
    omega
  · split
    · unfold flagB; split <;> simp <;> omega
    · split
      · unfold textB
        rw [List.length_append, hsz]
        have := numB_len10 hs
        omega
      · split
        · omega
        · have := numB_len10 h
          omega
theorem bulk_thing {H : Type} (t : Th) : Rows.uptoBulk (t.data (H := H)) = t.s.size + 5 := by
  have hsz : t.s.data.toList.length = t.s.size := by simp
  simp only [Th.data, Rows.uptoBulk, Rows.uptoBulkAll, hsz]
  omega
structure ThB (ts : List Th) (n : Nat) : Prop where
  len : ts.length ≤ n
  each : ∀ t ∈ ts, t.s.size ≤ n
  sum : (ts.flatMap thB).length ≤ 20 * n
theorem things_bulk {H : Type} {d : DataW H} {ts : List Th} (hok : ∀ t ∈ ts, t.ok) (h : (d = .nil ∧ ts = []) ∨ ∃ sp, d = .slice (ts.map Th.data) sp) (hb : Rows.uptoBulk d ≤ 1048576) : ThB ts 1048576 := by
  rcases h with ⟨_, rfl⟩ | ⟨sp, rfl⟩
  · exact ⟨by simp, by simp, by simp⟩
  · have h1 := bulk_slice (ts.map (Th.data (H := H))) sp
    have h2 := bulk_len (ts.map (Th.data (H := H)))
    rw [List.length_map] at h2
    have h3 : ∀ t ∈ ts, t.s.size ≤ 1048576 := fun t ht => by
      have := bulk_part (l := ts.map (Th.data (H := H))) (List.mem_map_of_mem ht)
      rw [bulk_thing] at this
      omega
    refine ⟨by omega, h3, ?_⟩
    rw [flat_sum]
    have h4 : ∀ us : List Th, (∀ t ∈ us, t ∈ ts) → (us.map fun t => (thB t).length).sum ≤ 20 * Rows.uptoBulkAll (us.map (Th.data (H := H))) := fun us => by
      induction us with
      | nil => intro _; simp
      | cons u us ih =>
        intro hu
        have h5 := ih fun t ht => hu t (by simp [ht])
        have hm := hu u (by simp)
        have h6 := thB_len u (hok u hm).2.2 (by have := h3 u hm; omega)
        have h7 := bulk_thing (H := H) u
        simp only [List.map_cons, List.sum_cons, Rows.uptoBulkAll, Nat.mul_add]
        omega
    have := h4 ts (fun _ h => h)
    omega
theorem nats_of {H : Type} {enc : TypeId × Value → H} {W : World} {base : Nat} {v : Value} {d : DataW H} {ps : List MemPlace}
    (hv : Value.okWide Try.prog W .any base 23 v) (h : DataW.Trod enc Try.prog W 0 (fun _ => true) true 23 v d ps) :
    ∃ (A : Option Addr) (cap : Nat) (ns : List Nat), v = .slice A ns.length cap ∧ ARow W W.heap.size A (ns.flatMap fun n : Nat => [.int .u64 (n : Int)]) ∧ (∀ n ∈ ns, n < 18446744073709551616) ∧
      (Rows.uptoBulk d ≤ 1048576 → ns.length ≤ 1048576 ∧ (ns.flatMap numB).length ≤ 10 * 1048576) := by
  obtain ⟨A, cap, ts, h1, h2, _, _, h5⟩ := slice_of (α := Nat) (fun n : Nat => [.int .u64 (n : Int)]) (fun n d => n < 18446744073709551616) 1 (by decide) Try.underlying23 cellsU (fun _ => rfl)
    (fun n cs x hx => by
      obtain ⟨m, h1, _, h3⟩ := DataW.trod_int Try.underlying34 hx
      have b := bounds_u64 h3
      obtain ⟨k, rfl⟩ := Int.eq_ofNat_of_zero_le b.1
      exact ⟨k, h1, by omega⟩) hv h
  have hn : ∀ n ∈ ts, n < 18446744073709551616 := by
    rcases h5 with ⟨_, rfl⟩ | ⟨ds, sp, _, hl, hq⟩
    · simp
    · intro n hn
      obtain ⟨i, hi, rfl⟩ := List.getElem_of_mem hn
      exact hq i hi (by omega)
  refine ⟨A, cap, ts, h1, h2, hn, fun hb => ?_⟩
  have hlen : ts.length ≤ 1048576 := by
    rcases h5 with ⟨_, rfl⟩ | ⟨ds, sp, rfl, hl, _⟩
    · simp
    · have h6 := bulk_slice ds sp
      have h7 := bulk_len ds
      omega
  refine ⟨hlen, ?_⟩
  have h8 : ∀ us : List Nat, (∀ t ∈ us, t ∈ ts) → (us.flatMap numB).length ≤ 10 * us.length := fun us => by
    induction us with
    | nil => intro _; simp
    | cons u us ih =>
      intro hu
      have h5 := ih fun t ht => hu t (by simp [ht])
      have h6 := numB_len10 (hn u (hu u (by simp)))
      simp only [List.flatMap_cons, List.length_append, List.length_cons]
      omega
  have := h8 ts fun _ h => h
  omega
theorem texts_bulk {H : Type} {d : DataW H} {ss : List ByteArray} (h : (d = .nil ∧ ss = []) ∨ ∃ sp, d = .slice (ss.map fun s => .lit (.string s.data.toList)) sp) (hb : Rows.uptoBulk d ≤ 1048576) :
    ss.length ≤ 1048576 ∧ (∀ s ∈ ss, s.size ≤ 1048576) ∧ (ss.flatMap fun s : ByteArray => textB s.data.toList).length ≤ 11 * 1048576 := by
  rcases h with ⟨_, rfl⟩ | ⟨sp, rfl⟩
  · simp
  · obtain ⟨dat, hdat⟩ : ∃ dat : ByteArray → DataW H, dat = fun s => .lit (.string s.data.toList) := ⟨_, rfl⟩
    rw [← hdat] at hb
    have hbd : ∀ s, Rows.uptoBulk (dat s) = s.size + 1 := fun s => by
      rw [hdat]; simp only [Rows.uptoBulk]; rw [show s.data.toList.length = s.size by simp]
    have h1 := bulk_slice (ss.map dat) sp
    have h2 := bulk_len (ss.map dat)
    rw [List.length_map] at h2
    have h3 : ∀ t ∈ ss, t.size ≤ 1048576 := fun t ht => by
      have := bulk_part (l := ss.map dat) (List.mem_map_of_mem ht)
      rw [hbd] at this
      omega
    refine ⟨by omega, h3, ?_⟩
    rw [flat_sum]
    have h4 : ∀ us : List ByteArray, (∀ t ∈ us, t ∈ ss) → (us.map fun s => (textB s.data.toList).length).sum ≤ 11 * Rows.uptoBulkAll (us.map dat) := fun us => by
      induction us with
      | nil => intro _; simp
      | cons u us ih =>
        intro hu
        have h5 := ih fun t ht => hu t (by simp [ht])
        have h6 := h3 u (hu u (by simp))
        have h7 := hbd u
        have h8 : (textB u.data.toList).length ≤ 10 + u.size := by
          unfold textB
          rw [List.length_append, show u.data.toList.length = u.size by simp]
          have := numB_len10 (n := u.size) (by omega)
          omega
        simp only [List.map_cons, List.sum_cons, Rows.uptoBulkAll, Nat.mul_add]
        omega
    have := h4 ss (fun _ h => h)
    omega
end Go.Proofs.Ytpcbkkccaahdbaa
