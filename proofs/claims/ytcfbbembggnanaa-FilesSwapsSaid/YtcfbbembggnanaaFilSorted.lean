/- slices.Sorted(maps.Keys(files)): the names, in some order. -/
import Derived.Test.YtcfbbembggnanaaFilRenam2
import Derived.Test.YtcfbbembggnanaaLaid
namespace Go.Proofs.Ytcfbbembggnanaa
open Go.RowKit Go.Maps Go.Sort Go.Shelf
theorem perm_lift {α β : Type} (f : α → β) {ss t : List β} (h : ss.Perm t) : ∀ l : List α, t = l.map f → ∃ l' : List α, l'.Perm l ∧ l'.map f = ss := by
  induction h with
  | nil => intro l hl; exact ⟨l, .refl _, hl.symm⟩
  | cons x _ ih =>
    intro l hl
    match l, hl with
    | a :: l, hl =>
      simp only [List.map_cons, List.cons.injEq] at hl
      obtain ⟨l', h1, h2⟩ := ih l hl.2
      exact ⟨a :: l', h1.cons a, by rw [List.map_cons, h2, hl.1]⟩
  | swap x y l0 =>
    intro l hl
    match l, hl with
    | a :: b :: l, hl =>
      simp only [List.map_cons, List.cons.injEq] at hl
      exact ⟨b :: a :: l, .swap _ _ _, by rw [List.map_cons, List.map_cons, hl.1, hl.2.1, hl.2.2]⟩
  | trans _ _ ih1 ih2 =>
    intro l hl
    obtain ⟨l1, h1, h2⟩ := ih2 l hl
    obtain ⟨l2, h3, h4⟩ := ih1 l1 h2.symm
    exact ⟨l2, h3.trans h1, h4⟩
theorem enc_KV (ks : List Key) : (ks.map (·.1)).map encStr = ks.map KV := by rw [List.map_map]; rfl
/-- slices.Sort's two contracts, at the fence that asks nothing. -/
theorem fi_sorts (m : Nat) : AnyZ.SortsIn Try.prog Try.sortedA_ren Fence.wide m :=
  ⟨fun blk off cap ss W hH hblk hsz => callsIn_wide.2 (AnyM.slices_Sort_string Try.sortA blk off cap ss W hH hblk hsz),
   fun p cap W => callsIn_wide.2 (AnyM.slices_Sort_string_none Try.sortA p cap W)⟩
theorem keys_any (mb : Option Nat) (W : World) : Calls Try.prog 33 #[.map mb] W fun e w' => e = .returned (.func (.func 49) #[] #[.pointer (some ⟨W.heap.size, 0, none⟩)]) ∧ w' = W.alloc (.cells #[.map mb] 43) :=
  (callsIn_wide (n := 5)).1 (AnyZ.keys_in Try.keysA Fence.wide 5 trivial rfl mb W)
section
variable {w : World} {F : List Nat} {M : List (Key × Nat)} {mp : Value}
theorem sorted_any (h : FMap w mp F M) (hl : M.length ≤ 1000000) : ∃ mb, mp = .map mb ∧ Calls Try.prog 32 #[.func (.func 49) #[] #[.pointer (some ⟨w.heap.size, 0, none⟩)]] (w.alloc (.cells #[.map mb] 43)) fun e w' =>
    ∃ (v : Value) (ns : List Key), e = .returned v ∧ ns.Perm (M.map Prod.fst) ∧ w'.ownsRow (w.heap.size + 1) 9 1 v ns.length (ns.map KV) ∧ Fr w.heap.size [] w w' := by
  rcases h with ⟨rfl, rfl⟩ | ⟨b, rfl, hM, hb⟩
  · refine ⟨none, rfl, ?_⟩
    have hseq : SeqGives Fence.wide 2 Try.prog 49 #[.pointer (some ⟨w.heap.size, 0, none⟩)] encStr (fun ss : List (List UInt8) => ss = []) 0 (w.alloc (.cells #[.map none] 43)) :=
      AnyZ.keys_gives_nil (ρ := Try.keysA_ren) { Try.keysA with } Fence.wide _ trivial rfl w.heap.size _ (by simp) (by simp)
    have cS := AnyZ.sorted_in Try.sortedA Fence.wide 5 trivial trivial trivial trivial rfl (by omega) (fi_sorts _) (enters_of Try.func48 (by kernel_rfl) rfl) 49 #[.pointer (some ⟨w.heap.size, 0, none⟩)] trivial (enters_of Try.func49 (by kernel_rfl) rfl) _ 0 (Nat.zero_le _) (by omega) _ hseq
    change CallsIn _ _ Try.prog 32 _ _ _ at cS
    refine ((callsIn_wide (n := 5)).1 cS).mono ?_
    rintro e w' ⟨v, ss, rfl, rfl, hrow, hnil, hbel⟩
    have hrow2 : w'.ownsRow (w.alloc (.cells #[.map none] 43)).heap.size 9 1 v 0 [] := by rw [List.mergeSort_nil] at hrow; exact hrow
    exact ⟨v, [], rfl, .refl _, by simpa using hrow2, ((Fr.refl _ [] w).alloc (Nat.le_refl _) (.cells #[.map none] 43)).below hbel (by simp)⟩
  · refine ⟨some b, rfl, ?_⟩
    obtain ⟨D0, hown, hsz, hperm⟩ := owns_of hM (by simp only [maxLen]; omega)
    have hmax : Maps.size D0 ≤ maxLen := by rw [hsz]; simp only [maxLen]; omega
    have hbytes : Maps.size D0 * 16 ≤ 140737488355328 := by rw [hsz]; omega
    have hbl := hown.lt
    have hseq : SeqGives Fence.wide 2 Try.prog 49 #[.pointer (some ⟨w.heap.size, 0, none⟩)] encStr (fun ss => ss.Perm (strKeys D0)) (Maps.size D0) (w.alloc (.cells #[.map (some b)] 43)) :=
      AnyZ.keys_gives (ρ := Try.keysA_ren) { Try.keysA with } Fence.wide _ trivial rfl (by omega) w.heap.size b M.length D0 _ (by simp) (by simp) (by
        obtain ⟨es, clock, hb, Ft, hs, hD⟩ := hown
        exact ⟨es, clock, (Below.heap_alloc _ _ b hbl).trans hb, Ft, hs, hD⟩)
    have cS := AnyZ.sorted_in Try.sortedA Fence.wide 5 trivial trivial trivial trivial rfl (by omega) (fi_sorts _) (enters_of Try.func48 (by kernel_rfl) rfl) 49 #[.pointer (some ⟨w.heap.size, 0, none⟩)] trivial (enters_of Try.func49 (by kernel_rfl) rfl) _ _ hmax hbytes _ hseq
    change CallsIn _ _ Try.prog 32 _ _ _ at cS
    refine ((callsIn_wide (n := 5)).1 cS).mono ?_
    rintro e w' ⟨v, ss, rfl, hS, hrow, hnil, hbel⟩
    have hp2 : (ss.mergeSort (fun x y => decide (x ≤ y))).Perm (M.map (·.1.1)) := (List.mergeSort_perm _ _).trans (hS.trans hperm)
    obtain ⟨ns, h1, h2⟩ := perm_lift (fun k : Key => k.1) hp2 (M.map Prod.fst) (by rw [List.map_map]; rfl)
    refine ⟨v, ns, rfl, h1, ?_, ((Fr.refl _ [] w).alloc (Nat.le_refl _) (.cells #[.map (some b)] 43)).below hbel (by simp)⟩
    rw [← h2] at hrow
    have hlen : ss.length = ns.length := by
      have := congrArg List.length h2
      simpa using this.symm
    rw [hlen, enc_KV] at hrow
    have hrow2 : w'.ownsRow (w.alloc (.cells #[.map (some b)] 43)).heap.size 9 1 v ns.length (ns.map KV) := hrow
    simpa using hrow2
end
end Go.Proofs.Ytcfbbembggnanaa
