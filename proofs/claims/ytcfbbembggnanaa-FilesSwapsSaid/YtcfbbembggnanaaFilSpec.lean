/- Disks: what stands in memory; ContainsFunc at names. -/
import Derived.Test.YtcfbbembggnanaaFilName
import Derived.Maps.OwnSet
namespace Go.Proofs.Ytcfbbembggnanaa
open Go.RowKit Go.Maps
set_option maxHeartbeats 1000000 in
theorem askF_any (w : World) (x : Key) : Calls Try.prog 42 #[KV x] w fun e w' => e = .returned (.bool (!nameB x.1)) ∧ w = w' := by
  obtain ⟨b, hb⟩ : ∃ b, nameB x.1 = b := ⟨_, rfl⟩
  have h := name_any w x
  rw [hb] at h ⊢
  go_enter Try.func42, Try.ntmps42
  go_wp2_with (go_at_call 43; (refine h.mono ?_); rintro e w' ⟨rfl, rfl⟩)
  go_ret
  exact ⟨rfl, rfl⟩
set_option maxHeartbeats 1000000 in
theorem idxBad_any (w : World) (A : Option Addr) (c : Nat) (xs : List Key) (h : ARow w w.heap.size A (xs.map KV)) (hl : xs.length ≤ 4611686018427387904) :
    Calls Try.prog 50 #[.slice A xs.length c, .func (.func 42) #[] #[]] w fun e w' => (∃ z : Int, e = .returned (.int .i64 z) ∧ decide (0 ≤ z) = xs.any (fun x => !nameB x.1)) ∧ w = w' := by
  go_enter Try.func50, Try.ntmps50
  go_wp2
  go_loopw [8] (fun i wr => ∃ k : Nat, k ≤ xs.length ∧ i = .int .i64 (k : Int) ∧ w = wr ∧ Hid ((xs.take k).any (fun x => !nameB x.1) = false)) (fun i _ => xs.length - (intOf i).toNat)
  case atStart => exact ⟨0, by omega, rfl, rfl, rfl⟩
  case round =>
    obtain ⟨k, hk, rfl, rfl, hno⟩ := hrel
    by_cases hlt : k < xs.length
    · have hki : (k : Int) < xs.length := by omega
      obtain ⟨blk, o, rfl, hb, e0⟩ := name_of h k hlt
      have hc := askF_any w xs[k]
      obtain ⟨b, hbb⟩ : ∃ b, nameB xs[k].1 = b := ⟨_, rfl⟩
      have hany : Hid ((xs.take (k + 1)).any (fun x => !nameB x.1) = !b) := by
        refine Lib.hid ?_
        rw [List.take_succ_eq_append_getElem hlt, List.any_append, hno.out]
        simp [hbb]
      have hall : Hid (b = false → xs.any (fun x => !nameB x.1) = true) := by
        refine Lib.hid fun hbf => ?_
        rw [List.any_eq_true]
        exact ⟨xs[k], List.getElem_mem _, by rw [hbb, hbf]; rfl⟩
      rw [hbb] at hc
      obtain ⟨s, hs⟩ : ∃ s : ByteArray, KV xs[k] = .string s := ⟨_, rfl⟩
      rw [hs] at hc e0
      clear hs hbb
      cases b
      · go_wp2_with (go_at_call 42; (refine hc.mono ?_); rintro e w2 ⟨rfl, rfl⟩)
        go_ret
        exact ⟨⟨k, rfl, by rw [hall.out (by trivial)]; simp⟩, rfl⟩
      · go_wp2_with (go_at_call 42; (refine hc.mono ?_); rintro e w2 ⟨rfl, rfl⟩)
        exact ⟨⟨k + 1, by omega, by go_num, by trivial, hany⟩, by simp [intOf]; omega⟩
    · obtain rfl : k = xs.length := by omega
      rw [List.take_length] at hno
      go_wp2
      go_ret
      exact ⟨⟨-1, rfl, by rw [hno.out]; rfl⟩, rfl⟩
set_option maxHeartbeats 1000000 in
theorem hasBad_any (w : World) (A : Option Addr) (c : Nat) (xs : List Key) (h : ARow w w.heap.size A (xs.map KV)) (hl : xs.length ≤ 4611686018427387904) :
    Calls Try.prog 41 #[.slice A xs.length c, .func (.func 42) #[] #[]] w fun e w' => e = .returned (.bool (xs.any (fun x => !nameB x.1))) ∧ w = w' := by
  have hi := idxBad_any w A c xs h hl
  go_enter Try.func41, Try.ntmps41
  go_wp2_with (go_at_call 50; (refine hi.mono ?_); rintro e w2 ⟨⟨z, rfl, hz⟩, rfl⟩; obtain ⟨b, hb⟩ : ∃ b, xs.any (fun x => !nameB x.1) = b := ⟨_, rfl⟩; rw [hb] at hz; have hz2 : decide (z ≥ 0) = b := hz)
  go_ret
  exact ⟨by rw [hb]; rfl, rfl⟩
/-- A file: its bytes, how many of them are firm. -/
structure Fl where
  bs : List UInt8
  firm : Nat
deriving Inhabited, DecidableEq
def strV (l : List UInt8) : Value := .string ⟨l.toArray⟩
def flC (k : Key) (f : Fl) : List Value := [strV f.bs, .int .i64 (f.firm : Int), KV k]
def PV (b : Nat) : Value := .pointer (some ⟨b, 0, none⟩)
/-- The files: name, block, what it holds. -/
abbrev FD := List (Key × (Nat × Fl))
def mapD (D : FD) : List (Key × Nat) := D.map fun d => (d.1, d.2.1)
def FMap (w : World) (mp : Value) (F : List Nat) (M : List (Key × Nat)) : Prop := (mp = .map none ∧ M = []) ∨ ∃ b, mp = .map (some b) ∧ MapIs KV PV w b M ∧ b ∈ F
/-- A disk in block g; its blocks are F. -/
structure DkIs (w : World) (g : Nat) (F : List Nat) (room left steps : Int) (on : Bool) (D : FD) : Prop where
  ex : ∃ mp, Has w g 45 [mp, .int .i64 room, .int .i64 left, .bool on, .int .i64 steps] ∧ FMap w mp F (mapD D)
  files : ∀ d ∈ D, Has w d.2.1 52 (flC d.1 d.2.2) ∧ d.2.1 ∈ F
  apart : (D.map (·.2.1)).Nodup
  nod : (D.map Prod.fst).Nodup
  self : g ∈ F
  lt : ∀ k ∈ F, k < w.heap.size
theorem FMap.fr {w w' : World} {mp : Value} {F : List Nat} {M : List (Key × Nat)} {B : Nat} {S : List Nat} (h : FMap w mp F M) (hF : ∀ k ∈ F, k < B) (hS : ∀ k ∈ F, k ∉ S) (hf : Fr B S w w') : FMap w' mp F M := by
  rcases h with h | ⟨b, h1, h2, h3⟩
  · exact .inl h
  · exact .inr ⟨b, h1, h2.fr hf (hF b h3) (hS b h3), h3⟩
theorem DkIs.fr {w w' : World} {g : Nat} {F : List Nat} {room left steps : Int} {on : Bool} {D : FD} {B : Nat} {S : List Nat} (h : DkIs w g F room left steps on D) (hF : ∀ k ∈ F, k < B) (hS : ∀ k ∈ F, k ∉ S) (hf : Fr B S w w') : DkIs w' g F room left steps on D := by
  obtain ⟨mp, h1, h4⟩ := h.ex
  exact ⟨⟨mp, h1.fr hf (hF g h.self) (hS g h.self), h4.fr hF hS hf⟩, fun d hd => ⟨(h.files d hd).1.fr hf (hF _ (h.files d hd).2) (hS _ (h.files d hd).2), (h.files d hd).2⟩, h.apart, h.nod, h.self, fun k hk => Nat.lt_of_lt_of_le (h.lt k hk) hf.size⟩
theorem DkIs.fr0 {w w' : World} {g : Nat} {F : List Nat} {room left steps : Int} {on : Bool} {D : FD} (h : DkIs w g F room left steps on D) (hf : Fr w.heap.size [] w w') : DkIs w' g F room left steps on D := h.fr h.lt (by simp) hf
/-- The disk's own cells are written: the rest stays. -/
theorem DkIs.cells {w w' : World} {g : Nat} {F : List Nat} {room left steps room' left' steps' : Int} {on on' : Bool} {D : FD} (h : DkIs w g F room left steps on D) (ho : One g w w')
    (hc : ∀ mp, Has w g 45 [mp, .int .i64 room, .int .i64 left, .bool on, .int .i64 steps] → Has w' g 45 [mp, .int .i64 room', .int .i64 left', .bool on', .int .i64 steps']) : DkIs w' g F room' left' steps' on' D := by
  obtain ⟨mp, h1, h4⟩ := h.ex
  refine ⟨⟨mp, hc mp h1, ?_⟩, fun d hd => ?_, h.apart, h.nod, h.self, fun k hk => by rw [ho.size]; exact h.lt k hk⟩
  · rcases h4 with h4 | ⟨b, h5, h6, h7⟩
    · exact .inl h4
    · refine .inr ⟨b, h5, h6.block (ho.block b fun e => ?_), h7⟩
      obtain ⟨es, clock, hb, _⟩ := h6
      unfold Has at h1
      rw [e] at hb
      rw [h1] at hb
      cases hb
  · obtain ⟨h5, h6⟩ := h.files d hd
    exact ⟨h5.one ho (h5.ne h1 (by decide)), h6⟩
end Go.Proofs.Ytcfbbembggnanaa
