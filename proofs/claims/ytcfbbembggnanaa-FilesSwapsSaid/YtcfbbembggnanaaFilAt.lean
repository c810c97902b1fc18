/- A disk that the call itself has made: the contracts in one plain form. -/
import Derived.Test.YtcfbbembggnanaaFilCrash
namespace Go.Proofs.Ytcfbbembggnanaa
open Go.RowKit Go.Maps
/-- A disk without its blocks. -/
structure FS where
  room : Int
  left : Int
  steps : Int
  on : Bool
  P : FP
deriving DecidableEq
def thereP (on : Bool) (P : FP) (x : Key) : Int := if askE on [x] ≠ 0 then askE on [x] else if (getL P x).isNone = true then 21 else 0
def readP (on : Bool) (P : FP) (x : Key) : List UInt8 := if thereP on P x = 0 then ((getL P x).map fun z => z.bs).getD [] else []
def fullP (room : Int) (P : FP) (x : Key) (n : Nat) : Bool := ((getL P x).isNone && decide (256 ≤ P.length)) || decide (room - usedP P < n)
def appS (S : FS) (x : Key) (dl : List UInt8) : Int × FS := if askE S.on [x] ≠ 0 then (askE S.on [x], S) else if fullP S.room S.P x dl.length = true then (22, S) else (if S.left = 1 then 23 else 0, ⟨S.room, leftE S.left, S.steps + 1, S.left != 1, appP S.P x dl⟩)
def eachP (upd : FP → Key → FP) : List Key → FS → Int × FS
  | [], s => (0, s)
  | x :: xs, s => if thereP s.on s.P x ≠ 0 then (thereP s.on s.P x, s) else if s.left = 1 then (23, ⟨s.room, leftE s.left, s.steps + 1, false, s.P⟩) else eachP upd xs ⟨s.room, leftE s.left, s.steps + 1, true, upd s.P x⟩
def firmP (P : FP) (x : Key) : FP := P.map fun d => if d.1 = x then (x, (⟨d.2.bs, d.2.bs.length⟩ : Fl)) else d
def goneP (P : FP) (x : Key) : FP := P.filter fun d => decide (d.1 ≠ x)
def renP (y : Key) (P : FP) (x : Key) : FP := match getL P x with
  | some z => putL (goneP P x) y z
  | none => P
def renS (S : FS) (x y : Key) : Int × FS := if askE S.on [x, y] ≠ 0 then (askE S.on [x, y], S) else eachP (renP y) [x] S
def looseP (P : FP) (x : Key) : Bool := match getL P x with
  | some z => decide (z.firm < z.bs.length)
  | none => false
def loseP (P : FP) (x : Key) (p : Int) : FP := P.map fun d => if d.1 = x then (x, loseFl d.2 p) else d
def crashP : List Key → FP → List Int → FP
  | [], P, _ => P
  | x :: ns, P, ps => crashP ns (loseP P x (pkH ps)) (if looseP P x then ps.tail else ps)
theorem get_plain (D : FD) (x : Key) : getL (plainL D) x = (getL D x).map (·.2) := by
  unfold plainL
  induction D with
  | nil => rfl
  | cons d D ih =>
    obtain ⟨k, z⟩ := d
    rw [List.map_cons, getL_cons, getL_cons, ih]
    split <;> rfl
theorem keys_plain (D : FD) : (plainL D).map Prod.fst = D.map Prod.fst := by unfold plainL; rw [List.map_map]; rfl
theorem there_plain (on : Bool) (D : FD) (x : Key) : thereE on D x = thereP on (plainL D) x := by
  unfold thereE thereP
  rw [get_plain]
  cases getL D x <;> rfl
theorem read_plain (on : Bool) (D : FD) (x : Key) : readB on D x = readP on (plainL D) x := by
  unfold readB readP
  rw [there_plain, get_plain]
  cases getL D x <;> rfl
theorem full_plain (room : Int) (D : FD) (x : Key) (n : Nat) : fullB room D x n = fullP room (plainL D) x n := by
  unfold fullB fullP
  rw [get_plain, used_plain, len_plain]
  cases getL D x <;> rfl
theorem firm_plain (D : FD) (x : Key) : plainL (firmD D x) = firmP (plainL D) x := by
  unfold plainL firmD firmP
  rw [List.map_map, List.map_map]
  refine List.map_congr_left fun d _ => ?_
  simp only [Function.comp]
  split <;> rfl
theorem gone_plain (D : FD) (x : Key) : plainL (goneD D x) = goneP (plainL D) x := by
  unfold plainL goneD goneP
  rw [List.filter_map]
  rfl
theorem put_plain (D : FD) (y : Key) (z : Nat × Fl) : plainL (putL D y z) = putL (plainL D) y z.2 := by
  have hk : (plainL D).map Prod.fst = D.map Prod.fst := keys_plain D
  unfold putL
  rw [hk]
  by_cases h : y ∈ D.map Prod.fst
  · rw [if_pos h, if_pos h]
    unfold plainL
    rw [List.map_map, List.map_map]
    refine List.map_congr_left fun d _ => ?_
    simp only [Function.comp]
    split <;> rfl
  · rw [if_neg h, if_neg h]
    simp [plainL]
theorem ren_plain (D : FD) (x y : Key) : plainL (renD y D x) = renP y (plainL D) x := by
  unfold renD renP
  rw [get_plain]
  cases getL D x with
  | none => rfl
  | some z =>
    simp only [Option.map_some]
    rw [put_plain, gone_plain]
theorem lose_plain (D : FD) (x : Key) (p : Int) : plainL (loseD D x p) = loseP (plainL D) x p := by
  unfold plainL loseD loseP
  rw [List.map_map, List.map_map]
  refine List.map_congr_left fun d _ => ?_
  simp only [Function.comp]
  split <;> rfl
theorem loose_plain (D : FD) (x : Key) : looseD D x = looseP (plainL D) x := by
  unfold looseD looseP
  rw [get_plain]
  cases getL D x <;> rfl
theorem crash_plain : ∀ (ns : List Key) (D : FD) (ps : List Int), plainL (crashS ns D ps) = crashP ns (plainL D) ps
  | [], _, _ => rfl
  | x :: ns, D, ps => by
    unfold crashS crashP
    rw [crash_plain ns, lose_plain, loose_plain]
theorem each_plain (updD : FD → Key → FD) (updP : FP → Key → FP) (hu : ∀ D x, plainL (updD D x) = updP (plainL D) x) (room : Int) : ∀ (xs : List Key) (s : EaSt), (eachS updD xs s).1 = (eachP updP xs ⟨room, s.left, s.steps, s.on, plainL s.D⟩).1 ∧
    (eachP updP xs ⟨room, s.left, s.steps, s.on, plainL s.D⟩).2 = ⟨room, (eachS updD xs s).2.left, (eachS updD xs s).2.steps, (eachS updD xs s).2.on, plainL (eachS updD xs s).2.D⟩
  | [], s => ⟨rfl, rfl⟩
  | x :: xs, s => by
    unfold eachS eachP
    simp only [there_plain]
    by_cases h1 : thereP s.on (plainL s.D) x ≠ 0
    · rw [if_pos h1, if_pos h1]
      exact ⟨rfl, rfl⟩
    · rw [if_neg h1, if_neg h1]
      by_cases h2 : s.left = 1
      · rw [if_pos h2, if_pos h2]
        exact ⟨rfl, rfl⟩
      · rw [if_neg h2, if_neg h2]
        have := each_plain updD updP hu room xs ⟨updD s.D x, leftE s.left, s.steps + 1, true⟩
        simp only [hu] at this
        exact this
/-- Numbers within bounds. -/
structure FOk (S : FS) : Prop where
  room : 0 ≤ S.room ∧ S.room ≤ 16777216
  left : 0 ≤ S.left ∧ S.left ≤ 9223372036854775807
  steps : 0 ≤ S.steps ∧ S.steps ≤ 1000000000
  used : usedP S.P ≤ 16777216
  len : S.P.length ≤ 1000000
  files : ∀ d ∈ S.P, okF d.2
theorem files_plain {D : FD} {P : FP} (h : plainL D = P) (hk : ∀ d ∈ P, okF d.2) : ∀ d ∈ D, okF d.2.2 := fun d hd => hk (d.1, d.2.2) (by rw [← h]; exact List.mem_map.2 ⟨d, hd, rfl⟩)
/-- A disk in block g; all its blocks are from B on and none of K; the blocks below B are as in w. -/
def FAt (B : Nat) (K : List Nat) (w W : World) (g : Nat) (S : FS) : Prop := ∃ F D, DkIs W g F S.room S.left S.steps S.on D ∧ plainL D = S.P ∧ (∀ q ∈ F, B ≤ q ∧ q ∉ K) ∧ (∀ k ∈ K, k < W.heap.size) ∧ Fr B [] w W
section
variable {B : Nat} {K : List Nat} {w W W' : World} {g : Nat} {S S' : FS}
theorem FAt.lo (h : FAt B K w W g S) : B ≤ W.heap.size := by
  obtain ⟨F, D, h1, _, h2, _⟩ := h
  have := h1.lt g h1.self
  have := (h2 g h1.self).1
  omega
theorem FAt.frame (h : FAt B K w W g S) : Fr B [] w W := by
  obtain ⟨F, D, h1, _, h2, h3, h4⟩ := h
  exact h4
theorem FAt.klt (h : FAt B K w W g S) : ∀ k ∈ K, k < W.heap.size := by
  obtain ⟨F, D, h1, _, h2, h3, h4⟩ := h
  exact h3
theorem FAt.nod (h : FAt B K w W g S) : (S.P.map Prod.fst).Nodup := by
  obtain ⟨F, D, h1, h5, _⟩ := h
  rw [← h5, keys_plain]
  exact h1.nod
/-- Something else turns: blocks of K, and new ones. -/
theorem FAt.other (h : FAt B K w W g S) {T : List Nat} (hf : Fr W.heap.size T W W') (hS : ∀ k ∈ T, k ∈ K ∧ B ≤ k) {K' : List Nat} (hK : ∀ k ∈ K', (k ∈ K ∨ W.heap.size ≤ k) ∧ k < W'.heap.size) : FAt B K' w W' g S := by
  have hlo := h.lo
  obtain ⟨F, D, h1, o1, h2, h3, h4⟩ := h
  refine ⟨F, D, h1.fr h1.lt (fun k hk hks => (h2 k hk).2 (hS k hks).1) hf, o1, fun q hq => ⟨(h2 q hq).1, fun hqk => ?_⟩, fun k hk => (hK k hk).2, h4.trans (hf.mono hlo fun k hk hkb => absurd (hS k hk).2 (by omega))⟩
  rcases (hK q hqk).1 with h5 | h5
  · exact (h2 q hq).2 h5
  · have := h1.lt q hq; omega
theorem FAt.fr (h : FAt B K w W g S) (hf : Fr W.heap.size [] W W') : FAt B K w W' g S ∧ Kp K W W' :=
  ⟨h.other hf (by simp) fun k hk => ⟨.inl hk, Nat.lt_of_lt_of_le (h.klt k hk) hf.size⟩, Kp.of_fr hf fun k hk => ⟨h.klt k hk, by simp⟩⟩
theorem FAt.alloc (h : FAt B K w W g S) (o : Obj) : FAt B K w (W.alloc o) g S := (h.fr ((Fr.refl _ _ _).alloc (Nat.le_refl _) o)).1
theorem FAt.keep (h : FAt B K w W g S) (o : Obj) : FAt B (W.heap.size :: K) w (W.alloc o) g S := by
  refine h.other ((Fr.refl _ _ _).alloc (Nat.le_refl _) o) (T := []) (by simp) fun k hk => ?_
  rcases List.mem_cons.1 hk with rfl | hk
  · exact ⟨.inr (Nat.le_refl _), by simp⟩
  · have := h.klt k hk
    exact ⟨.inl hk, by simp; omega⟩
theorem FAt.drop (h : FAt B K w W g S) {K' : List Nat} (hK : ∀ k ∈ K', k ∈ K) : FAt B K' w W g S := by
  obtain ⟨F, D, h1, o1, h2, h3, h4⟩ := h
  exact ⟨F, D, h1, o1, fun q hq => ⟨(h2 q hq).1, fun e => (h2 q hq).2 (hK q e)⟩, fun k hk => h3 k (hK k hk), h4⟩
theorem FAt.go {F F' : List Nat} {D' : FD} {room left steps : Int} {on : Bool} {D : FD} (h1 : DkIs W g F room left steps on D) (h2 : ∀ q ∈ F, B ≤ q ∧ q ∉ K) (h3 : ∀ k ∈ K, k < W.heap.size) (h4 : Fr B [] w W)
    (k1 : DkIs W' g F' S'.room S'.left S'.steps S'.on D') (o1 : plainL D' = S'.P) (k2 : Fr W.heap.size F W W') (k3 : ∀ q ∈ F', q ∈ F ∨ W.heap.size ≤ q) : FAt B K w W' g S' ∧ Kp K W W' := by
  have hB : B ≤ W.heap.size := by have := h1.lt g h1.self; have := (h2 g h1.self).1; omega
  exact ⟨⟨F', D', k1, o1, fun q hq => by
    rcases k3 q hq with h | h
    · exact h2 q h
    · exact ⟨by omega, fun e => by have := h3 q e; omega⟩, fun k hk => Nat.lt_of_lt_of_le (h3 k hk) k2.size, h4.trans (k2.mono hB fun q hq hl => absurd (h2 q hq).1 (by omega))⟩, fun k hk => k2.block k (h3 k hk) (fun e => (h2 k e).2 hk)⟩
end
section
variable {B : Nat} {K : List Nat} {w W : World} {g : Nat} {S : FS}
theorem fat_new (w : World) (n : Int) : Calls Try.prog 10 #[.int .i64 n] w fun e w' => e = .returned (.pointer (some ⟨w.heap.size, 0, none⟩)) ∧ FAt w.heap.size [] w w' w.heap.size ⟨roomE n, 0, 0, true, []⟩ :=
  (new_any w n).mono fun _ _ ⟨h1, h2, h3⟩ => ⟨h1, [w.heap.size], [], h2, rfl, by simp, by simp, h3⟩
theorem fat_on (h : FAt B K w W g S) : Calls Try.prog 19 #[.pointer (some ⟨g, 0, none⟩)] W fun e w' => e = .returned (.bool S.on) ∧ W = w' := by
  obtain ⟨F, D, h1, _⟩ := h
  exact on_any h1
theorem fat_arm (h : FAt B K w W g S) (n : Int) (hn : n < 9223372036854775807) : Calls Try.prog 20 #[.pointer (some ⟨g, 0, none⟩), .int .i64 n] W fun e w' => e = .returned (.tuple #[]) ∧ FAt B K w w' g ⟨S.room, armE n, S.steps, S.on, S.P⟩ ∧ Kp K W w' := by
  obtain ⟨F, D, h1, o1, h2, h3, h4⟩ := h
  exact (arm_any h1 n hn).mono fun e w' ⟨k1, k2, k3⟩ => ⟨k1, FAt.go h1 h2 h3 h4 k2 o1 ((Fr.refl _ _ _).one k3 (.inl h1.self)) fun q hq => .inl hq⟩
theorem fat_used (h : FAt B K w W g S) (hk : usedP S.P ≤ 4611686018427387904) : Calls Try.prog 15 #[.pointer (some ⟨g, 0, none⟩)] W fun e w' => e = .returned (.int .i64 (usedP S.P : Int)) ∧ FAt B K w w' g S ∧ Kp K W w' := by
  have hh := h
  obtain ⟨F, D, h1, o1, h2, h3, h4⟩ := h
  rw [← o1, ← used_plain] at hk ⊢
  exact (used_any h1 hk).mono fun e w' ⟨k1, k2⟩ => ⟨k1, hh.fr k2⟩
theorem fat_read (h : FAt B K w W g S) (x : Key) : Calls Try.prog 14 #[.pointer (some ⟨g, 0, none⟩), KV x] W fun e w' => e = .returned (.tuple #[strV (readP S.on S.P x), .int .i64 (thereP S.on S.P x)]) ∧ FAt B K w w' g S ∧ Kp K W w' := by
  have hh := h
  obtain ⟨F, D, h1, o1, h2, h3, h4⟩ := h
  rw [← o1, ← there_plain, ← read_plain]
  exact (read_any h1 x).mono fun e w' ⟨k1, k2⟩ => ⟨k1, hh.fr k2⟩
theorem fat_each {fn : FuncId} (h : FAt B K w W g S) (updD : FD → Key → FD) (updP : FP → Key → FP) (hu : ∀ D x, plainL (updD D x) = updP (plainL D) x) (v : Value) (xs : List Key)
    (hc : ∀ F D, DkIs W g F S.room S.left S.steps S.on D → (∀ q ∈ F, B ≤ q ∧ q ∉ K) → Calls Try.prog fn #[.pointer (some ⟨g, 0, none⟩), v] W fun e w' =>
      e = .returned (.int .i64 (eachS updD xs ⟨D, S.left, S.steps, S.on⟩).1) ∧ DkIs w' g F S.room (eachS updD xs ⟨D, S.left, S.steps, S.on⟩).2.left (eachS updD xs ⟨D, S.left, S.steps, S.on⟩).2.steps (eachS updD xs ⟨D, S.left, S.steps, S.on⟩).2.on (eachS updD xs ⟨D, S.left, S.steps, S.on⟩).2.D ∧ Fr W.heap.size F W w') :
    Calls Try.prog fn #[.pointer (some ⟨g, 0, none⟩), v] W fun e w' => e = .returned (.int .i64 (eachP updP xs S).1) ∧ FAt B K w w' g (eachP updP xs S).2 ∧ Kp K W w' := by
  obtain ⟨F, D, h1, o1, h2, h3, h4⟩ := h
  obtain ⟨q1, q2⟩ := each_plain updD updP hu S.room xs ⟨D, S.left, S.steps, S.on⟩
  simp only [o1] at q1 q2
  have hS : (⟨S.room, S.left, S.steps, S.on, S.P⟩ : FS) = S := rfl
  rw [hS] at q1 q2
  refine (hc F D h1 h2).mono fun e w' ⟨k1, k2, k3⟩ => ⟨by rw [← q1]; exact k1, ?_⟩
  rw [q2]
  exact FAt.go h1 h2 h3 h4 k2 rfl k3 fun q hq => .inl hq
theorem fat_sync (h : FAt B K w W g S) (hk : FOk S) (A : Option Addr) (c : Nat) (xs : List Key) (hA : ARow W W.heap.size A (xs.map KV)) (hAK : xs ≠ [] → ∀ blk o, A = some ⟨blk, o, none⟩ → blk ∈ K ∨ blk < B) (hl : xs.length ≤ 1000000) :
    Calls Try.prog 12 #[.pointer (some ⟨g, 0, none⟩), .slice A xs.length c] W fun e w' => e = .returned (.int .i64 (eachP firmP xs S).1) ∧ FAt B K w w' g (eachP firmP xs S).2 ∧ Kp K W w' :=
  fat_each h firmD firmP firm_plain _ xs fun F D h1 h2 => sync_any h1 A c xs hA (fun hne blk o he hb => by
    rcases hAK hne blk o he with h5 | h5
    · exact (h2 blk hb).2 h5
    · have := (h2 blk hb).1; omega) hl hk.left.1 hk.left.2 hk.steps.1 hk.steps.2
theorem fat_remove (h : FAt B K w W g S) (hk : FOk S) (A : Option Addr) (c : Nat) (xs : List Key) (hA : ARow W W.heap.size A (xs.map KV)) (hAK : xs ≠ [] → ∀ blk o, A = some ⟨blk, o, none⟩ → blk ∈ K ∨ blk < B) (hl : xs.length ≤ 1000000) :
    Calls Try.prog 21 #[.pointer (some ⟨g, 0, none⟩), .slice A xs.length c] W fun e w' => e = .returned (.int .i64 (eachP goneP xs S).1) ∧ FAt B K w w' g (eachP goneP xs S).2 ∧ Kp K W w' :=
  fat_each h goneD goneP gone_plain _ xs fun F D h1 h2 => remove_any h1 A c xs hA (fun hne blk o he hb => by
    rcases hAK hne blk o he with h5 | h5
    · exact (h2 blk hb).2 h5
    · have := (h2 blk hb).1; omega) hl hk.left.1 hk.left.2 hk.steps.1 hk.steps.2
theorem fat_rename (h : FAt B K w W g S) (hk : FOk S) (x y : Key) : Calls Try.prog 22 #[.pointer (some ⟨g, 0, none⟩), KV x, KV y] W fun e w' => e = .returned (.int .i64 (renS S x y).1) ∧ FAt B K w w' g (renS S x y).2 ∧ Kp K W w' := by
  have hh := h
  obtain ⟨F, D, h1, o1, h2, h3, h4⟩ := h
  obtain ⟨q1, q2⟩ := each_plain (renD y) (renP y) (fun D x => ren_plain D x y) S.room [x] ⟨D, S.left, S.steps, S.on⟩
  simp only [o1] at q1 q2
  have hS : (⟨S.room, S.left, S.steps, S.on, S.P⟩ : FS) = S := rfl
  rw [hS] at q1 q2
  unfold renS
  refine (rename_any h1 x y hk.left.1 hk.left.2 hk.steps.1 hk.steps.2).mono fun e w' hp => ?_
  rcases hp with ⟨p1, p2, p3⟩ | ⟨p1, p2, p3, p4⟩
  · rw [if_pos p1]
    exact ⟨p2, hh.fr p3⟩
  · rw [if_neg (by simpa using p1)]
    refine ⟨by rw [← q1]; exact p2, ?_⟩
    rw [q2]
    exact FAt.go h1 h2 h3 h4 p3 rfl p4 fun q hq => .inl hq
theorem fat_crash (h : FAt B K w W g S) (hl : S.P.length ≤ 1000000) (hf : ∀ d ∈ S.P, okF d.2) (A : Option Addr) (c : Nat) (ps : List Int) (hA : ARow W W.heap.size A (ps.map (Value.int .i64))) (hAK : ps ≠ [] → ∀ blk o, A = some ⟨blk, o, none⟩ → blk ∈ K ∨ blk < B) (hc : ps.length ≤ c) (hpl : ps.length ≤ 4611686018427387904) (hpo : ∀ p ∈ ps, okI p) :
    Calls Try.prog 13 #[.pointer (some ⟨g, 0, none⟩), .slice A ps.length c] W fun e w' => ∃ ns : List Key, ns.Perm (S.P.map Prod.fst) ∧ e = .returned (.tuple #[]) ∧ FAt B K w w' g ⟨S.room, 0, S.steps, true, crashP ns S.P ps⟩ ∧ Kp K W w' := by
  obtain ⟨F, D, h1, o1, h2, h3, h4⟩ := h
  refine (crash_any h1 (by rw [← len_plain, o1]; exact hl) (files_plain o1 hf) A c ps hA (fun hne blk o he hb => ?_) hc hpl hpo).mono fun e w' ⟨ns, k1, k2, k3, k4⟩ => ⟨ns, by rw [← o1, keys_plain]; exact k1, k2, FAt.go h1 h2 h3 h4 k3 (by rw [crash_plain, o1]) k4 fun q hq => .inl hq⟩
  rcases hAK hne blk o he with h5 | h5
  · exact (h2 blk hb).2 h5
  · have := (h2 blk hb).1; omega
theorem fat_list (h : FAt B K w W g S) (hl : S.P.length ≤ 1000000) (p : Key) : Calls Try.prog 18 #[.pointer (some ⟨g, 0, none⟩), KV p] W fun e w' =>
    ∃ (v : Value) (ls : List Key), e = .returned v ∧ w'.ownsRow W.heap.size 9 1 v ls.length (ls.map KV) ∧ FAt B K w w' g S ∧ Kp K W w' ∧ (S.on = false → ls = []) ∧ (S.on = true → ∃ ns : List Key, ns.Perm (S.P.map Prod.fst) ∧ ls = ns.filter (prefK p)) := by
  have hh := h
  obtain ⟨F, D, h1, o1, h2, h3, h4⟩ := h
  refine (list_any h1 (by rw [← len_plain, o1]; exact hl) p).mono fun e w' ⟨v, ls, k1, k2, k3, k4, k5⟩ => ⟨v, ls, k1, k2, (hh.fr k3).1, (hh.fr k3).2, k4, ?_⟩
  rw [← o1, keys_plain]
  exact k5
/-- strings.Join of a row of texts, at whatever world follows. -/
theorem join_row (w : World) (A : Option Addr) (c : Nat) (pl : List (List UInt8)) (hA : ARow w w.heap.size A (pl.map strV)) (hc : pl.length ≤ c) (hn : pl.length ≤ 140737488355328) (hl : pl.flatten.length ≤ 140737488355328) :
    ∀ W, Fr w.heap.size [] w W → Calls Try.prog 26 #[.slice A pl.length c, .string ⟨#[]⟩] W fun e w' => e = .returned (strV pl.flatten) ∧ Fr W.heap.size [] W w' := by
  intro W hW
  by_cases h0 : pl = []
  · subst h0
    exact (Try.strings_Join_none A c ⟨#[]⟩ W).mono fun e w' ⟨h1, h2⟩ => ⟨h1, h2 ▸ Fr.refl _ _ _⟩
  · rcases hA.fr hW (Nat.le_refl _) (by simp) with h | ⟨blk, o, rfl, hb, hr⟩
    · simp at h; exact absurd h h0
    · have hj : Lib.join ((pl.map fun l => (⟨l.toArray⟩ : ByteArray)).map (·.data.toList)) (⟨#[]⟩ : ByteArray).data.toList = pl.flatten := by
        have h1 : (pl.map fun l => (⟨l.toArray⟩ : ByteArray)).map (·.data.toList) = pl := by
          rw [List.map_map]
          exact List.map_id _
        rw [h1]
        cases pl with
        | nil => exact absurd rfl h0
        | cons x r =>
          rw [Lib.join_cons, List.flatten_cons]
          unfold Lib.joinTail
          simp
      have := Try.strings_Join blk o c (pl.map fun l => (⟨l.toArray⟩ : ByteArray)) ⟨#[]⟩ W (fun j x hx => by
        refine hr j _ ?_
        rw [List.getElem?_map] at hx ⊢
        cases h : pl[j]? with
        | none => rw [h] at hx; simp at hx
        | some l => rw [h] at hx; simp at hx; subst hx; rfl) (Nat.lt_of_lt_of_le hb hW.size) (by simpa using hn) (by simpa using hc) (by rw [hj]; exact hl)
      rw [hj, List.length_map] at this
      exact this.mono fun e w' ⟨h1, h2⟩ => ⟨h1, Fr.of_below h2 []⟩
theorem fat_append (h : FAt B K w W g S) (hr : 0 ≤ S.room ∧ S.room ≤ 16777216) (hlf : 0 ≤ S.left ∧ S.left ≤ 9223372036854775807) (hst : 0 ≤ S.steps ∧ S.steps ≤ 4611686018427387904) (hu : usedP S.P ≤ 16777216) (x : Key) (A : Option Addr) (c : Nat) (pl : List (List UInt8)) (hA : ARow W W.heap.size A (pl.map strV)) (hc : pl.length ≤ c) (hn : pl.length ≤ 140737488355328) (hl : pl.flatten.length ≤ 140737488355328) :
    Calls Try.prog 11 #[.pointer (some ⟨g, 0, none⟩), KV x, .slice A pl.length c] W fun e w' => e = .returned (.int .i64 (appS S x pl.flatten).1) ∧ FAt B K w w' g (appS S x pl.flatten).2 ∧ Kp K W w' := by
  have hh := h
  obtain ⟨F, D, h1, o1, h2, h3, h4⟩ := h
  have hf := full_plain S.room D x pl.flatten.length
  rw [o1] at hf
  refine (append_any h1 x A pl.length c pl.flatten hl (by rw [used_plain, o1]; exact hu) hr hlf.1 hlf.2 hst.1 hst.2 (join_row W A c pl hA hc hn hl)).mono fun e w' hp => ?_
  unfold appS
  unfold AppPost at hp
  rw [hf] at hp
  rcases hp with ⟨p1, p2, p3⟩ | ⟨p1, p2, p3, p4⟩ | ⟨p1, p2, p3, F', D', p4, p5, p6, p7⟩
  · rw [if_pos p1]
    exact ⟨p2, hh.fr p3⟩
  · rw [if_neg (by simpa using p1), if_pos p2]
    exact ⟨p3, hh.fr p4⟩
  · rw [if_neg (by simpa using p1), if_neg (by rw [p2]; exact Bool.noConfusion)]
    exact ⟨p3, FAt.go h1 h2 h3 h4 p4 (by rw [p5, o1]) p6 p7⟩
end
end Go.Proofs.Ytcfbbembggnanaa
