/- The law's own examples: three, awake. -/
import Derived.Test.YtcemlacfldonlaaQuoRep
import Derived.Test.YtcemlacfldonlaaQuoVerd
namespace Go.Proofs.Ytcemlacfldonlaa
open Go.RowKit
open Ck
set_option linter.unusedSimpArgs false
def tsA : List (Int × Int) := [(1, 1), (4, 2), (3, 3)]
def LA0 : List Tg := [⟨1, 1, 0, none⟩, ⟨4, 2, 0, none⟩, ⟨3, 3, 0, none⟩]
def LA1 : List Tg := [⟨1, 1, 0, none⟩, ⟨4, 2, 1, none⟩, ⟨3, 3, 0, none⟩]
def LA2 : List Tg := [⟨1, 1, 0, none⟩, ⟨4, 2, 1, none⟩, ⟨3, 3, 1, none⟩]
def LB1 : List Tg := [⟨1, 1, 0, none⟩, ⟨4, 2, 0, none⟩, ⟨3, 3, 2, none⟩]
def LC1 (b : Nat) : List Tg := [⟨1, 1, 1, some b⟩, ⟨4, 2, 0, none⟩, ⟨3, 3, 0, none⟩]
def LC2 (b : Nat) : List Tg := [⟨1, 1, 1, some b⟩, ⟨4, 2, 0, none⟩, ⟨3, 3, 1, none⟩]
theorem Fr.into {B : Nat} {F : List Nat} {a w w' : World} (E : Fr B [] a w) (hB : B ≤ w.heap.size) (f : Fr w.heap.size F w w') (h : ∀ q ∈ F, B ≤ q) : Fr B [] a w' :=
  E.trans (f.mono hB fun k hk hl => absurd (h k hk) (by omega))
section
variable {w : World} {g ty : Nat} {F : List Nat} {need prime : Int} {L : List Tg}
set_option maxHeartbeats 4000000
set_option maxRecDepth 100000
theorem three_any (w : World) : Calls Try.prog 10 #[] w fun e w' => (∃ A c, e = .returned (.slice A 3 c) ∧ ARow w' w'.heap.size A (tsA.flatMap PT)) ∧ Fr w.heap.size [] w w' := by
  have V := Has.new w 45 (tsA.flatMap PT)
  have f1 := (Fr.refl w.heap.size [] w).alloc (Nat.le_refl _) (.cells (tsA.flatMap PT).toArray 45)
  go_enter Try.func10, Try.ntmps10
  go_wp2
  go_ret
  exact ⟨⟨_, _, rfl, .inr ⟨w.heap.size, 0, rfl, by simp, fun j u hu => by rw [Nat.zero_add]; exact (V.cell j).trans hu⟩⟩, f1⟩
theorem new3 (w : World) (A : Option Addr) (c : Nat) (need prime : Int) (hA : ARow w w.heap.size A (tsA.flatMap PT)) :
    Calls Try.prog 6 #[.slice A 3 c, .int .i64 need, .int .i64 prime] w fun e w' => e = .returned (.pointer (some ⟨w.heap.size, 0, none⟩)) ∧ ∃ F, TyIs w' w.heap.size 57 F need prime LA0 ∧ Fr w.heap.size [] w w' ∧ ∀ q ∈ F, w.heap.size ≤ q := by
  have h := new_any w A c tsA need prime hA (by decide)
  rw [show newL tsA = LA0 by decide] at h
  exact h
theorem new0 (w : World) (need prime : Int) :
    Calls Try.prog 6 #[.slice none 0 0, .int .i64 need, .int .i64 prime] w fun e w' => e = .returned (.pointer (some ⟨w.heap.size, 0, none⟩)) ∧ ∃ F, TyIs w' w.heap.size 57 F need prime [] ∧ Fr w.heap.size [] w w' ∧ ∀ q ∈ F, w.heap.size ≤ q :=
  new_any w none 0 [] need prime (.inl rfl) (by decide)
theorem newR3 (w : World) (A : Option Addr) (c : Nat) (need prime : Int) (hA : ARow w w.heap.size A (tsA.flatMap PT)) :
    Calls Try.prog 11 #[.slice A 3 c, .int .i64 need, .int .i64 prime] w fun e w' => ∃ G F, e = .returned (.pointer (some ⟨G, 0, none⟩)) ∧ TyIs w' G 67 F need prime LA0 ∧ Fr w.heap.size [] w w' ∧ ∀ q ∈ F, w.heap.size ≤ q := by
  have h := newRead_any w A c tsA need prime hA (by decide)
  rw [show newL tsA = LA0 by decide] at h
  exact h
theorem yesC (h : TyIs w g ty F need prime L) (hl : L.length ≤ 1000000000) (hn : (L.map Tg.node).Nodup) (n : Int) {b : Bool} {L' : List Tg} (hb : L.any (newB n) = b) (hs : sayL 1 n L = L') :
    Calls Try.prog 8 #[.pointer (some ⟨g, 0, none⟩), .slice (some ⟨w.heap.size, 0, none⟩) 1 1] (w.alloc (.cells #[.int .i64 n] 3)) fun e w' => e = .returned (.bool b) ∧ TyIs w' g ty F need prime L' ∧ Fr w.heap.size F w w' := by
  subst hb hs
  have f1 := (Fr.refl w.heap.size [] w).alloc (Nat.le_refl _) (.cells #[.int .i64 n] 3)
  exact (yes_any (h.fr0 f1) hl hn n w.heap.size 0 1 ((Has.new w 3 [.int .i64 n]).cell 0)).mono fun e w' ⟨h1, h2, h3⟩ => ⟨h1, h2, (f1.mono (Nat.le_refl _) (by simp)).trans (h3.mono f1.size fun _ h _ => h)⟩
theorem noC (h : TyIs w g ty F need prime L) (hl : L.length ≤ 1000000000) (hn : (L.map Tg.node).Nodup) (n : Int) {b : Bool} {L' : List Tg} (hb : L.any (newB n) = b) (hs : sayL 2 n L = L') :
    Calls Try.prog 9 #[.pointer (some ⟨g, 0, none⟩), .slice (some ⟨w.heap.size, 0, none⟩) 1 1] (w.alloc (.cells #[.int .i64 n] 3)) fun e w' => e = .returned (.bool b) ∧ TyIs w' g ty F need prime L' ∧ Fr w.heap.size F w w' := by
  subst hb hs
  have f1 := (Fr.refl w.heap.size [] w).alloc (Nat.le_refl _) (.cells #[.int .i64 n] 3)
  exact (no_any (h.fr0 f1) hl hn n w.heap.size 0 1 ((Has.new w 3 [.int .i64 n]).cell 0)).mono fun e w' ⟨h1, h2, h3⟩ => ⟨h1, h2, (f1.mono (Nat.le_refl _) (by simp)).trans (h3.mono f1.size fun _ h _ => h)⟩
theorem verdC (h : TyIs w g ty F need prime L) (hl : L.length ≤ 1000000000) {v : Int} (hv : verdN need prime L = v) : Calls Try.prog 7 #[.pointer (some ⟨g, 0, none⟩)] w fun e w' => e = .returned (.int .i64 v) ∧ Fr w.heap.size [] w w' := by
  subst hv
  exact verd_any h hl
theorem gotC (h : TyIs w g ty F need prime LA0) : Calls Try.prog 12 #[.pointer (some ⟨g, 0, none⟩), .int .i64 1, .agg #[.int .i64 2, .slice none 0 0, .slice none 0 0, .slice none 0 0]] w fun e w' => e = .returned (.bool true) ∧ TyIs w' g ty F need prime (LC1 w.heap.size) ∧ Has w' w.heap.size 37 [.int .i64 2, .slice none 0 0, .slice none 0 0, .slice none 0 0] ∧ Fr w.heap.size F w w' :=
  (got_any h (by decide) (by decide) 1 (by decide) 2).mono fun e w' ⟨h1, k, hk, hk1, h2, h3, h4⟩ => ⟨h1, by
    have hlen : (sayL 1 1 LA0).length = 3 := by decide
    have hk0 : k = 0 := by
      have : ∀ j : Nat, ((sayL 1 1 LA0)[j]?.map Tg.node = some 1) → j < 3 → j = 0 := by
        intro j e hj
        rcases j with _ | _ | _ | j
        · rfl
        · exact absurd e (by decide)
        · exact absurd e (by decide)
        · omega
      exact this k (by rw [List.getElem?_eq_getElem hk, Option.map_some, hk1]) (by omega)
    subst hk0
    exact h2, h3, h4⟩
theorem noneC (h : TyIs w g ty F need prime L) (hl : L.length ≤ 1000000000) (hn : (L.map Tg.node).Nodup) (n : Int) {b : Bool} {L' : List Tg} (hb : L.any (newB n) = b) (hs : sayL 1 n L = L') :
    Calls Try.prog 14 #[.pointer (some ⟨g, 0, none⟩), .int .i64 n] w fun e w' => e = .returned (.bool b) ∧ TyIs w' g ty F need prime L' ∧ Fr w.heap.size F w w' := by
  subst hb hs
  exact none_any h hl hn n
theorem repC {bx : Nat} (h : TyIs w g ty F need prime (LC2 bx)) (hX : Has w bx 37 [.int .i64 2, .slice none 0 0, .slice none 0 0, .slice none 0 0]) :
    Calls Try.prog 15 #[.pointer (some ⟨g, 0, none⟩)] w fun e w' => (∃ r o c2, e = .returned (.slice (some ⟨r, o, none⟩) 1 c2) ∧ w'.cell? ⟨r, o, none⟩ = some (.int .i64 3) ∧ r < w'.heap.size) ∧ Fr w.heap.size [] w w' := by
  obtain ⟨A, c, h1, h2, -⟩ := h.row
  refine (qRep_one w h1 h2 (by simp [LC2]) (by simp [LC2]) bx rfl (fun j hj h0 => ?_) 2 none 0 hX).mono ?_
  · have hj3 : j < 3 := hj
    rcases j with _ | _ | _ | j
    · omega
    · rfl
    · rfl
    · omega
  · rintro e w' ⟨⟨out, A2, c2, rfl, hown, hout⟩, hf⟩
    have ho : out = [3] := by rw [hout]; rfl
    subst ho
    obtain ⟨A3, c3, e3, hr⟩ := own_arow hown
    injection e3 with e4 e5 e6
    subst e4
    refine ⟨?_, hf⟩
    rcases hr with hr | ⟨blk, o, rfl, hb, hc⟩
    · simp at hr
    · exact ⟨blk, o, c2, rfl, by have := hc 0 _ rfl; rwa [Nat.add_zero] at this, hb⟩
end
end Go.Proofs.Ytcemlacfldonlaa
