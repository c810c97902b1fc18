/- QuorumStays: the walk. -/
import Derived.Test.YtcemlacfldonlaaQuoStayP
import Derived.Test.YtcemlacfldonlaaQuoOpens
import Derived.BigQuiet
namespace Go.Proofs.Ytcemlacfldonlaa
open Go.RowKit
open Ck
set_option linter.unusedSimpArgs false
/-- An answer of the script, with what its cell has. -/
structure OpC where
  kind : Int
  node : Int
  k : Int
  a1 : Option Addr
  n1 : Nat
  c1 : Nat
  a2 : Option Addr
  n2 : Nat
  c2 : Nat
  a3 : Option Addr
  n3 : Nat
  c3 : Nat
deriving Inhabited
def OpC.cells (o : OpC) : List Value := [.int .i64 o.kind, .int .i64 o.node, .int .i64 o.k, .slice o.a1 o.n1 o.c1, .slice o.a2 o.n2 o.c2, .slice o.a3 o.n3 o.c3]
def OpC.pr (o : OpC) : Int × Int := (if o.kind.tmod 2 = 0 then 1 else 2, o.node)
theorem pr_ne (l : List OpC) : ∀ p ∈ l.map OpC.pr, p.1 ≠ 0 := by
  intro p hp
  obtain ⟨o, _, rfl⟩ := List.mem_map.1 hp
  unfold OpC.pr
  simp only
  split <;> decide
theorem newl_said (ts : List (Int × Int)) : ∀ x ∈ newL ts, x.said = 0 := by
  have : ∀ (ts : List (Int × Int)) (L : List Tg), (∀ x ∈ L, x.said = 0) → ∀ x ∈ ts.foldl addT L, x.said = 0 := by
    intro ts
    induction ts with
    | nil => intro L h; exact h
    | cons t ts ih =>
      intro L h
      rw [List.foldl_cons]
      apply ih
      intro x hx
      unfold addT at hx
      split at hx
      · exact h x hx
      · rcases List.mem_append.1 hx with hx | hx
        · exact h x hx
        · simp at hx; rw [hx]
  exact this ts [] (by simp)
theorem newl_len (ts : List (Int × Int)) : (newL ts).length ≤ ts.length := by
  have : ∀ (ts : List (Int × Int)) (L : List Tg), (ts.foldl addT L).length ≤ L.length + ts.length := by
    intro ts
    induction ts with
    | nil => intro L; simp
    | cons t ts ih =>
      intro L
      rw [List.foldl_cons]
      have := ih (addT L t)
      have := addT_len L t
      simp
      omega
  have h := this ts []
  rw [List.length_nil, Nat.zero_add] at h
  exact h
theorem arow_take {w : World} {N : Nat} {A : Option Addr} {ts : List (Int × Int)} (h : ARow w N A (ts.flatMap PT)) (k : Nat) : ARow w N A ((ts.take k).flatMap PT) := by
  rcases h with h | ⟨blk, o, hA, hb, hr⟩
  · left
    rw [List.flatMap_eq_nil_iff] at h ⊢
    exact fun x hx => h x (List.mem_of_mem_take hx)
  · refine .inr ⟨blk, o, hA, hb, fun j u hu => hr j u ?_⟩
    have e : ts.flatMap PT = (ts.take k).flatMap PT ++ (ts.drop k).flatMap PT := by rw [← List.flatMap_append, List.take_append_drop]
    rw [e, List.getElem?_append_left (List.getElem?_eq_some_iff.1 hu).1]
    exact hu
/-- What stands at a point of the law: both tallies and the row of first answers. -/
structure SQ (w : World) (g1 g2 : Nat) (F1 F2 : List Nat) (need prime : Int) (L O : List Tg) (A : Option Addr) (c : Nat) (fs : List OpC) (W : World) : Prop where
  t : TyIs W g1 57 F1 need prime L
  o : TyIs W g2 57 F2 need prime O
  row : W.ownsRow w.heap.size 39 6 (.slice A fs.length c) fs.length (fs.flatMap OpC.cells)
  own : ∀ j, (Value.slice A fs.length c).ownBlock = some j → j ∉ F1 ∧ j ∉ F2
  fr : Fr w.heap.size [] w W
section
variable {w W W' : World} {g1 g2 : Nat} {F1 F2 : List Nat} {need prime : Int} {L L' O O' : List Tg} {A : Option Addr} {c : Nat} {fs : List OpC}
theorem SQ.step (h : SQ w g1 g2 F1 F2 need prime L O A c fs W) (f : Fr W.heap.size [] W W') : SQ w g1 g2 F1 F2 need prime L O A c fs W' :=
  ⟨h.t.fr0 f, h.o.fr0 f, own_fr h.row (fun j hj => ⟨(h.row.lt j hj).2, List.not_mem_nil⟩) f, h.own, h.fr.into h.fr.size f (by simp)⟩
theorem SQ.alloc (h : SQ w g1 g2 F1 F2 need prime L O A c fs W) (o : Obj) : SQ w g1 g2 F1 F2 need prime L O A c fs (W.alloc o) := h.step ((Fr.refl _ _ _).alloc (Nat.le_refl _) o)
theorem SQ.drewN (h : SQ w g1 g2 F1 F2 need prime L O A c fs W) (n : Nat) : SQ w g1 g2 F1 F2 need prime L O A c fs (W.drewN n) := h.step ((Fr.refl _ _ _).drewN n)
theorem SQ.one (h : SQ w g1 g2 F1 F2 need prime L O A c fs W) (hd : ∀ j ∈ F1, j ∉ F2) (h1 : ∀ j ∈ F1, w.heap.size ≤ j) (T : TyIs W' g1 57 F1 need prime L') (f : Fr W.heap.size F1 W W') : SQ w g1 g2 F1 F2 need prime L' O A c fs W' :=
  ⟨T, h.o.fr f (fun j hj => ⟨h.o.lt j hj, fun hm => hd j hm hj⟩), own_fr h.row (fun j hj => ⟨(h.row.lt j hj).2, (h.own j hj).1⟩) f, h.own, h.fr.into h.fr.size f h1⟩
theorem SQ.two (h : SQ w g1 g2 F1 F2 need prime L O A c fs W) (hd : ∀ j ∈ F1, j ∉ F2) (h2 : ∀ j ∈ F2, w.heap.size ≤ j) (T : TyIs W' g2 57 F2 need prime O') (f : Fr W.heap.size F2 W W') : SQ w g1 g2 F1 F2 need prime L O' A c fs W' :=
  ⟨h.t.fr f (fun j hj => ⟨h.t.lt j hj, hd j hj⟩), T, own_fr h.row (fun j hj => ⟨(h.row.lt j hj).2, (h.own j hj).2⟩) f, h.own, h.fr.into h.fr.size f h2⟩
theorem SQ.at (h : SQ w g1 g2 F1 F2 need prime L O A c fs W) (q : Nat) (hq : q < fs.length) : ∃ blk o, A = some ⟨blk, o, none⟩ ∧ W.cell? ⟨blk, o + q * 6, none⟩ = some (.int .i64 fs[q].kind) ∧ W.cell? ⟨blk, o + q * 6 + 1, none⟩ = some (.int .i64 fs[q].node) := by
  obtain ⟨A4, c4, e4, hT⟩ := own_arow h.row
  injection e4 with e5 e6 e7
  subst e5
  obtain ⟨blk, o, hA, hb, hc⟩ := hT.at (c := 6) (fun _ => rfl) (by decide) q hq
  exact ⟨blk, o, hA, hc 0 _ rfl, hc 1 _ rfl⟩
end
theorem infoOp : (Try.prog.info? 39).map (fun i => (i.zero, i.size, i.bytes)) = some (some (.agg #[.int .i64 0, .int .i64 0, .int .i64 0, .slice none 0 0, .slice none 0 0, .slice none 0 0]), 6, 96) := by kernel_rfl
end Go.Proofs.Ytcemlacfldonlaa
