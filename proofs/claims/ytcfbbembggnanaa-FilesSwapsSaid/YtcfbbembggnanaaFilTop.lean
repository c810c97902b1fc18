/- ask, Limit, New, step, On, Steps, Arm. -/
import Derived.Test.YtcfbbembggnanaaFilSpec
namespace Go.Proofs.Ytcfbbembggnanaa
open Go.RowKit Go.Maps
/-- The error of ask. -/
def askE (on : Bool) (xs : List Key) : Int := if on = false then 23 else if xs.any (fun x => !nameB x.1) = true then 20 else 0
section
variable {w : World} {g : Nat} {F : List Nat} {room left steps : Int} {on : Bool} {D : FD}
set_option maxHeartbeats 1000000 in
theorem ask_nil (w : World) (A : Option Addr) (n c : Nat) : Calls Try.prog 25 #[.pointer none, .slice A n c] w fun e w' => e = .returned (.int .i64 23) ∧ w = w' := by
  go_enter Try.func25, Try.ntmps25
  go_wp2
  go_ret
  exact ⟨rfl, rfl⟩
set_option maxHeartbeats 1000000 in
theorem ask_any (h : DkIs w g F room left steps on D) (A : Option Addr) (c : Nat) (xs : List Key) (hA : ARow w w.heap.size A (xs.map KV)) (hl : xs.length ≤ 4611686018427387904) :
    Calls Try.prog 25 #[.pointer (some ⟨g, 0, none⟩), .slice A xs.length c] w fun e w' => e = .returned (.int .i64 (askE on xs)) ∧ w = w' := by
  obtain ⟨mp, h1, -⟩ := h.ex
  have c3 : w.cell? ⟨g, 3, none⟩ = some (.bool on) := h1.cell 3
  have hb := hasBad_any w A c xs hA hl
  unfold askE
  obtain ⟨b, hbb⟩ : ∃ b, xs.any (fun x => !nameB x.1) = b := ⟨_, rfl⟩
  rw [hbb] at hb ⊢
  clear hbb
  cases on
  · go_enter Try.func25, Try.ntmps25
    go_wp2
    go_ret
    exact ⟨rfl, rfl⟩
  · cases b
    · go_enter Try.func25, Try.ntmps25
      go_wp2_with (go_at_call 41; (refine hb.mono ?_); rintro e w2 ⟨rfl, rfl⟩)
      go_ret
      exact ⟨rfl, rfl⟩
    · go_enter Try.func25, Try.ntmps25
      go_wp2_with (go_at_call 41; (refine hb.mono ?_); rintro e w2 ⟨rfl, rfl⟩)
      go_ret
      exact ⟨rfl, rfl⟩
theorem dk_room (h : DkIs w g F room left steps on D) {X r : Int} (e : X = r) : DkIs (w.setCell ⟨g, 1, none⟩ (.int .i64 X)) g F r left steps on D := by
  subst e
  exact h.cells ((One.refl g w).setCell 1 _) fun _ h1 => h1.set 1 _
theorem dk_left (h : DkIs w g F room left steps on D) {X r : Int} (e : X = r) : DkIs (w.setCell ⟨g, 2, none⟩ (.int .i64 X)) g F room r steps on D := by
  subst e
  exact h.cells ((One.refl g w).setCell 2 _) fun _ h1 => h1.set 2 _
theorem dk_on (h : DkIs w g F room left steps on D) (b : Bool) : DkIs (w.setCell ⟨g, 3, none⟩ (.bool b)) g F room left steps b D :=
  h.cells ((One.refl g w).setCell 3 _) fun _ h1 => h1.set 3 _
theorem dk_steps (h : DkIs w g F room left steps on D) {X r : Int} (e : X = r) : DkIs (w.setCell ⟨g, 4, none⟩ (.int .i64 X)) g F room left r on D := by
  subst e
  exact h.cells ((One.refl g w).setCell 4 _) fun _ h1 => h1.set 4 _
def roomE (n : Int) : Int := if n < 0 then 0 else if 16777216 < n then 16777216 else n
set_option maxHeartbeats 1000000 in
theorem limit_nil (w : World) (n : Int) : Calls Try.prog 23 #[.pointer none, .int .i64 n] w fun e w' => e = .returned (.tuple #[]) ∧ w = w' := by
  go_enter Try.func23, Try.ntmps23
  go_wp2
  refine bodyPost_end (v := .tuple #[]) (by simp [results, Try.results23, go_sem]) rfl ⟨rfl, rfl⟩
set_option maxHeartbeats 1000000 in
theorem limit_any (hd : DkIs w g F room left steps on D) (n : Int) : Calls Try.prog 23 #[.pointer (some ⟨g, 0, none⟩), .int .i64 n] w fun e w' => e = .returned (.tuple #[]) ∧ DkIs w' g F (roomE n) left steps on D ∧ One g w w' := by
  obtain ⟨mp, h1, -⟩ := hd.ex
  have c1 : w.cell? ⟨g, 1, none⟩ = some (.int .i64 room) := h1.cell 1
  have z1 := h1.frozen 1
  go_enter Try.func23, Try.ntmps23
  go_wp2
  all_goals
    refine bodyPost_end (v := .tuple #[]) (by simp [results, Try.results23, go_sem]) rfl ⟨rfl, dk_room hd ?_, (One.refl g w).setCell 1 _⟩
    unfold roomE
    repeat' split
    all_goals omega
set_option maxHeartbeats 1000000 in
theorem new_any (w : World) (n : Int) : Calls Try.prog 10 #[.int .i64 n] w fun e w' => e = .returned (.pointer (some ⟨w.heap.size, 0, none⟩)) ∧ DkIs w' w.heap.size [w.heap.size] (roomE n) 0 0 true [] ∧ Fr w.heap.size [] w w' := by
  have h0 : DkIs (w.alloc (.cells #[.map none, .int .i64 0, .int .i64 0, .bool true, .int .i64 0] 45)) w.heap.size [w.heap.size] 0 0 0 true [] :=
    ⟨⟨.map none, Has.new w _ [.map none, .int .i64 0, .int .i64 0, .bool true, .int .i64 0], .inl ⟨rfl, rfl⟩⟩, by simp, by simp, by simp, by simp, by simp⟩
  have hl := limit_any h0 n
  go_enter Try.func10, Try.ntmps10
  go_wp2_with (go_at_call 23; (refine hl.mono ?_); rintro e w2 ⟨rfl, h2, o2⟩)
  go_ret
  exact ⟨rfl, h2, ((Fr.refl _ _ _).alloc (Nat.le_refl _) _).one o2 (.inr (Nat.le_refl _))⟩
set_option maxHeartbeats 1000000 in
theorem on_nil (w : World) : Calls Try.prog 19 #[.pointer none] w fun e w' => e = .returned (.bool false) ∧ w = w' := by
  go_enter Try.func19, Try.ntmps19
  go_wp2
  go_ret
  exact ⟨rfl, rfl⟩
set_option maxHeartbeats 1000000 in
theorem on_any (h : DkIs w g F room left steps on D) : Calls Try.prog 19 #[.pointer (some ⟨g, 0, none⟩)] w fun e w' => e = .returned (.bool on) ∧ w = w' := by
  obtain ⟨mp, h1, -⟩ := h.ex
  have c3 : w.cell? ⟨g, 3, none⟩ = some (.bool on) := h1.cell 3
  go_enter Try.func19, Try.ntmps19
  go_wp2
  go_ret
  exact ⟨rfl, rfl⟩
set_option maxHeartbeats 1000000 in
theorem steps_nil (w : World) : Calls Try.prog 24 #[.pointer none] w fun e w' => e = .returned (.int .i64 0) ∧ w = w' := by
  go_enter Try.func24, Try.ntmps24
  go_wp2
  go_ret
  exact ⟨rfl, rfl⟩
set_option maxHeartbeats 1000000 in
theorem arm_nil (w : World) (n : Int) : Calls Try.prog 20 #[.pointer none, .int .i64 n] w fun e w' => e = .returned (.tuple #[]) ∧ w = w' := by
  go_enter Try.func20, Try.ntmps20
  go_wp2
  refine bodyPost_end (v := .tuple #[]) (by simp [results, Try.results20, go_sem]) rfl ⟨rfl, rfl⟩
def armE (n : Int) : Int := if n < -1 then 0 else n + 1
set_option maxHeartbeats 1000000 in
theorem arm_any (hd : DkIs w g F room left steps on D) (n : Int) (hn : n < 9223372036854775807) : Calls Try.prog 20 #[.pointer (some ⟨g, 0, none⟩), .int .i64 n] w fun e w' => e = .returned (.tuple #[]) ∧ DkIs w' g F room (armE n) steps on D ∧ One g w w' := by
  obtain ⟨mp, h1, -⟩ := hd.ex
  have c1 : w.cell? ⟨g, 2, none⟩ = some (.int .i64 left) := h1.cell 2
  have z1 := h1.frozen 2
  have hw : -1 ≤ n → IntKind.i64.wrap (n + 1) = n + 1 := fun h => IntWalk.i64_in _ (by omega)
  go_enter Try.func20, Try.ntmps20
  go_wp2
  all_goals
    refine bodyPost_end (v := .tuple #[]) (by simp [results, Try.results20, go_sem]) rfl ⟨rfl, dk_left hd ?_, (One.refl g w).setCell 2 _⟩
    unfold armE
    split
    all_goals first
      | omega
      | (rw [hw (by omega)]; done)
      | (rw [hw (by omega)]; omega)
def leftE (n : Int) : Int := if n ≤ 0 then 0 else n - 1
set_option maxHeartbeats 2000000 in
theorem step_any (hd : DkIs w g F room left steps on D) (hl0 : 0 ≤ left) (hl1 : left ≤ 9223372036854775807) (hs0 : 0 ≤ steps) (hs1 : steps ≤ 4611686018427387904) :
    Calls Try.prog 27 #[.pointer (some ⟨g, 0, none⟩)] w fun e w' => e = .returned (.bool (left != 1)) ∧ DkIs w' g F room (leftE left) (steps + 1) (left != 1) D ∧ One g w w' := by
  obtain ⟨mp, h1, -⟩ := hd.ex
  have c0 : w.cell? ⟨g, 4, none⟩ = some (.int .i64 steps) := h1.cell 4
  have z0 := h1.frozen 4
  have hw1 : IntKind.i64.wrap (steps + 1) = steps + 1 := IntWalk.i64_in _ (by omega)
  have hw2 : IntKind.i64.wrap (left - 1) = left - 1 := IntWalk.i64_in _ (by omega)
  have s1 := dk_steps hd (rfl : steps + 1 = steps + 1)
  have o1 := (One.refl g w).setCell 4 (.int .i64 (steps + 1))
  go_enter Try.func27, Try.ntmps27
  go_upto_region 2 with fail
  generalize w.setCell ⟨g, 4, none⟩ (.int .i64 (steps + 1)) = w1 at s1 o1 ⊢
  obtain ⟨mp1, k1, -⟩ := s1.ex
  have c1 : w1.cell? ⟨g, 2, none⟩ = some (.int .i64 left) := k1.cell 2
  have c2 : w1.cell? ⟨g, 3, none⟩ = some (.bool on) := k1.cell 3
  have z1 := k1.frozen 3
  have s2 := dk_on s1 (left != 1)
  have o2 := o1.setCell 3 (.bool (left != 1))
  go_upto_region 3 with fail
  generalize w1.setCell ⟨g, 3, none⟩ (.bool (left != 1)) = w2 at s2 o2 ⊢
  obtain ⟨mp2, q1, -⟩ := s2.ex
  have d1 : w2.cell? ⟨g, 2, none⟩ = some (.int .i64 left) := q1.cell 2
  have y1 := q1.frozen 2
  have d3 : ∀ X, (w2.setCell ⟨g, 2, none⟩ (.int .i64 X)).cell? ⟨g, 3, none⟩ = some (.bool (left != 1)) := fun X => (q1.set 2 (.int .i64 X)).cell 3
  go_wp2
  all_goals
    go_ret
    refine ⟨rfl, dk_left s2 ?_, o2.setCell 2 _⟩
    unfold leftE
    split <;> omega
end
end Go.Proofs.Ytcfbbembggnanaa
