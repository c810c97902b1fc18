/- Rename. -/
import Derived.Test.YtcfbbembggnanaaFilRename
namespace Go.Proofs.Ytcfbbembggnanaa
open Go.RowKit Go.Maps
section
variable {w : World} {g : Nat} {F : List Nat} {room left steps : Int} {on : Bool} {D : FD}
theorem Has.of2 {w : World} {k : Nat} {t : TypeId} {v : Value} (h : Has w k t [v]) : w.cell? ⟨k, 0, none⟩ = some v := h.cell 0
set_option maxRecDepth 100000 in
set_option maxHeartbeats 2000000 in
theorem rename_any (hd : DkIs w g F room left steps on D) (x y : Key) (hl0 : 0 ≤ left) (hl1 : left ≤ 9223372036854775807) (hs0 : 0 ≤ steps) (hs1 : steps ≤ 1000000000) :
    Calls Try.prog 22 #[.pointer (some ⟨g, 0, none⟩), KV x, KV y] w fun e w' =>
      (askE on [x, y] ≠ 0 ∧ e = .returned (.int .i64 (askE on [x, y])) ∧ Fr w.heap.size [] w w') ∨
      (askE on [x, y] = 0 ∧ e = .returned (.int .i64 (eachS (renD y) [x] ⟨D, left, steps, on⟩).1) ∧ DkIs w' g F room (eachS (renD y) [x] ⟨D, left, steps, on⟩).2.left (eachS (renD y) [x] ⟨D, left, steps, on⟩).2.steps (eachS (renD y) [x] ⟨D, left, steps, on⟩).2.on (eachS (renD y) [x] ⟨D, left, steps, on⟩).2.D ∧ Fr w.heap.size F w w') := by
  obtain ⟨s, hs⟩ : ∃ s : ByteArray, KV x = .string s := ⟨_, rfl⟩
  obtain ⟨t, ht⟩ : ∃ t : ByteArray, KV y = .string t := ⟨_, rfl⟩
  have f1 := (Fr.refl w.heap.size [] w).alloc (Nat.le_refl _) (.cells #[.pointer (some ⟨g, 0, none⟩)] 25)
  have k1 := Has.new w 25 [.pointer (some ⟨g, 0, none⟩)]
  obtain ⟨w1, hw1⟩ : ∃ w1, w1 = w.alloc (.cells #[.pointer (some ⟨g, 0, none⟩)] 25) := ⟨_, rfl⟩
  have z1 : w1.heap.size = w.heap.size + 1 := by rw [hw1]; simp
  have f2 := (Fr.refl w1.heap.size [] w1).alloc (Nat.le_refl _) (.cells #[.string s] 9)
  have k2 := Has.new w1 9 [.string s]
  obtain ⟨w2, hw2⟩ : ∃ w2, w2 = w1.alloc (.cells #[.string s] 9) := ⟨_, rfl⟩
  have z2 : w2.heap.size = w1.heap.size + 1 := by rw [hw2]; simp
  have f3 := (Fr.refl w2.heap.size [] w2).alloc (Nat.le_refl _) (.cells #[.string t] 9)
  have k3 := Has.new w2 9 [.string t]
  obtain ⟨w3, hw3⟩ : ∃ w3, w3 = w2.alloc (.cells #[.string t] 9) := ⟨_, rfl⟩
  have z3 : w3.heap.size = w2.heap.size + 1 := by rw [hw3]; simp
  have f4 := (Fr.refl w3.heap.size [] w3).alloc (Nat.le_refl _) (.cells #[.string s, .string t] 9)
  have r4 := lit_row w3 [x, y]
  simp only [List.map_cons, List.map_nil, hs, ht] at r4
  rw [← hw1] at f1 k1
  rw [← hw2] at f2 k2
  rw [← hw3] at f3 k3
  have q1 : w3.cell? ⟨w.heap.size, 0, none⟩ = some (.pointer (some ⟨g, 0, none⟩)) := (f3.cell (p := ⟨w.heap.size, 0, none⟩) (by simp; omega) (by simp)).trans ((f2.cell (p := ⟨w.heap.size, 0, none⟩) (by simp; omega) (by simp)).trans (k1.cell 0))
  have q2 : w3.cell? ⟨w1.heap.size, 0, none⟩ = some (.string s) := (f3.cell (p := ⟨w1.heap.size, 0, none⟩) (by simp; omega) (by simp)).trans (k2.cell 0)
  have q3 : w3.cell? ⟨w2.heap.size, 0, none⟩ = some (.string t) := k3.cell 0
  have f13 : Fr w.heap.size [] w w3 := (f1.trans (f2.mono (by omega) (by simp))).trans (f3.mono (by omega) (by simp))
  have f14 : Fr w.heap.size [] w (w3.alloc (.cells #[.string s, .string t] 9)) := f13.trans (f4.mono (by omega) (by simp))
  have d4 := hd.fr0 f14
  have ha := ask_any d4 (some ⟨w3.heap.size, 0, none⟩) 2 [x, y] (by simp only [List.map_cons, List.map_nil, hs, ht]; exact r4) (by simp)
  simp only [List.length_cons, List.length_nil, Nat.zero_add] at ha
  obtain ⟨a, ha2⟩ : ∃ a, askE on [x, y] = a := ⟨_, rfl⟩
  rw [ha2] at ha ⊢
  obtain ⟨w4, hw4⟩ : ∃ w4, w4 = w3.alloc (.cells #[.string s, .string t] 9) := ⟨_, rfl⟩
  have z4 : w4.heap.size = w3.heap.size + 1 := by rw [hw4]; simp
  rw [← hw4] at f14 f4 ha r4 d4
  have p1 := (f4.cell (p := ⟨w.heap.size, 0, none⟩) (by simp; omega) (by simp)).trans q1
  have p2 := (f4.cell (p := ⟨w1.heap.size, 0, none⟩) (by simp; omega) (by simp)).trans q2
  have p3 := (f4.cell (p := ⟨w2.heap.size, 0, none⟩) (by simp; omega) (by simp)).trans q3
  have f5 := (Fr.refl w4.heap.size [] w4).alloc (Nat.le_refl _) (.cells #[.string s] 9)
  have r5 := lit_row w4 [x]
  simp only [List.map_cons, List.map_nil, hs] at r5
  obtain ⟨w5, hw5⟩ : ∃ w5, w5 = w4.alloc (.cells #[.string s] 9) := ⟨_, rfl⟩
  have z5 : w5.heap.size = w4.heap.size + 1 := by rw [hw5]; simp
  rw [← hw5] at f5 r5
  have f15 : Fr w.heap.size [] w w5 := f14.trans (f5.mono (by omega) (by simp))
  have o1 := (f5.cell (p := ⟨w.heap.size, 0, none⟩) (by simp; omega) (by simp)).trans p1
  have o2 := (f5.cell (p := ⟨w1.heap.size, 0, none⟩) (by simp; omega) (by simp)).trans p2
  have o3 := (f5.cell (p := ⟨w2.heap.size, 0, none⟩) (by simp; omega) (by simp)).trans p3
  have d5 := hd.fr0 f15
  have hF : ∀ k, w.heap.size ≤ k → k ∉ F := fun k hk hm => by have := hd.lt k hm; omega
  have he := each_any (xs := [x]) d5 40 #[.pointer (some ⟨w.heap.size, 0, none⟩), .pointer (some ⟨w1.heap.size, 0, none⟩), .pointer (some ⟨w2.heap.size, 0, none⟩)] (renD y) (enters_of Try.func40 (by kernel_rfl) rfl) (fun W l' s' o' D' x' b fl d1 hm hf hx => by
      obtain rfl : x' = x := by simpa using hx
      exact renameF_any d1 hm y w.heap.size w1.heap.size w2.heap.size ((hf.cell (p := ⟨w.heap.size, 0, none⟩) (by simp; omega) (hF _ (by simp))).trans o1) (by rw [hs]; exact (hf.cell (p := ⟨w1.heap.size, 0, none⟩) (by simp; omega) (hF _ (by simp; omega))).trans o2) (by rw [ht]; exact (hf.cell (p := ⟨w2.heap.size, 0, none⟩) (by simp; omega) (hF _ (by simp; omega))).trans o3) (hF _ (by omega)) (hF _ (by omega)) (by have := hf.size; omega) (by have := hf.size; omega)) (some ⟨w4.heap.size, 0, none⟩) 1 (by simp only [List.map_cons, List.map_nil, hs]; exact r5) (fun _ blk o h => by injection h with h; injection h with h1 h2; subst h1; exact hF _ (by omega)) (by simp) hl0 hl1 hs0 hs1
  obtain ⟨R, hR⟩ : ∃ R, eachS (renD y) [x] ⟨D, left, steps, on⟩ = R := ⟨_, rfl⟩
  rw [hR] at he ⊢
  simp only [List.length_cons, List.length_nil, Nat.zero_add] at he
  rw [hs, ht]
  clear r4 r5 k1 k2 k3 hR
  simp only [z4, z3, z2, z1] at ha he p1 p2 p3 q1 q2 q3 o1 o2 o3
  rw [hw4, hw3, hw2, hw1] at ha p1 p2 p3
  rw [hw3, hw2, hw1] at q1 q2 q3
  rw [hw5, hw4, hw3, hw2, hw1] at he
  have g14 := f14
  rw [hw4, hw3, hw2, hw1] at g14
  have g15 := f15
  rw [hw5, hw4, hw3, hw2, hw1] at g15
  clear f1 f2 f3 f4 f5 f13 f14 f15 d4 d5 o1 o2 o3 z1 z2 z3 z4 z5
  replace hw5 : Hid (w5 = w4.alloc (.cells #[.string s] 9)) := hw5
  clear hw5 hw4 hw3 hw2 hw1
  by_cases ha0 : a = 0
  · subst ha0
    go_enter Try.func22, Try.ntmps22
    go_wp2_with (first
      | (go_at_call 28; (with_reducible refine he.mono ?_); rintro e w7 ⟨rfl, h2, h3⟩)
      | (go_at_call 25; (with_reducible refine ha.mono ?_); rintro e w6 ⟨rfl, rfl⟩))
    go_ret
    exact .inr ⟨trivial, rfl, h2, (g15.mono (Nat.le_refl _) (by simp)).trans (h3.mono g15.size fun _ h _ => h)⟩
  · have hab : (a == 0) = false := by simpa using ha0
    go_enter Try.func22, Try.ntmps22
    go_wp2_with (go_at_call 25; (refine ha.mono ?_); rintro e w6 ⟨rfl, rfl⟩)
    go_ret
    exact .inl ⟨ha0, rfl, g14⟩
end
end Go.Proofs.Ytcfbbembggnanaa
