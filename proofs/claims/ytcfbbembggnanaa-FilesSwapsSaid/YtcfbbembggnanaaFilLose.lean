/- The picks of a crash; what a file loses. -/
import Derived.Test.YtcfbbembggnanaaFilList
import Derived.Deep.RegionWith
namespace Go.Proofs.Ytcfbbembggnanaa
open Go.RowKit Go.Maps
def pkV (p : Int) : Int := if p < 0 then -(p + 1) else p
def pkH : List Int → Int
  | [] => 0
  | p :: _ => pkV p
theorem pkV_ok {p : Int} (h : okI p) : 0 ≤ pkV p ∧ pkV p ≤ 9223372036854775807 := by
  unfold pkV
  obtain ⟨h1, h2⟩ := h
  split <;> omega
theorem pkH_ok {ps : List Int} (h : ∀ p ∈ ps, okI p) : 0 ≤ pkH ps ∧ pkH ps ≤ 9223372036854775807 := by
  cases ps with
  | nil => simp [pkH]
  | cons p ps => exact pkV_ok (h p (by simp))
theorem ARow.fr1 {w w' : World} {N B : Nat} {S : List Nat} {A : Option Addr} {vs : List Value} (h : ARow w N A vs) (hf : Fr B S w w') (hB : N ≤ B) (hS : ∀ blk o, A = some ⟨blk, o, none⟩ → blk ∉ S) : ARow w' N A vs := by
  rcases h with h | ⟨blk, o, hA, hb, hr⟩
  · exact .inl h
  · refine .inr ⟨blk, o, hA, hb, fun j v hv => ?_⟩
    rw [hf.cell (p := ⟨blk, o + j, none⟩) (Nat.lt_of_lt_of_le hb hB) (hS blk o hA)]
    exact hr j v hv
/-- The boxed picks: what is left of them. -/
structure PkIs (w : World) (bk : Nat) (S : List Nat) (ps : List Int) : Prop where
  ex : ∃ A c, Has w bk 23 [.slice A ps.length c] ∧ ARow w bk A (ps.map (Value.int .i64)) ∧ (ps ≠ [] → ∀ blk o, A = some ⟨blk, o, none⟩ → blk ∉ S) ∧ ps.length ≤ c
  ok : ∀ p ∈ ps, okI p
  len : ps.length ≤ 4611686018427387904
theorem PkIs.fr {w w' : World} {bk B : Nat} {S S' : List Nat} {ps : List Int} (h : PkIs w bk S ps) (hf : Fr B S' w w') (hb : bk < B) (hn : bk ∉ S') (hS : ∀ k ∈ S', k ∈ S) : PkIs w' bk S ps := by
  obtain ⟨A, c, h1, h2, h3, h4⟩ := h.ex
  refine ⟨⟨A, c, h1.fr hf hb hn, ?_, h3, h4⟩, h.ok, h.len⟩
  by_cases hp : ps = []
  · subst hp; exact .inl rfl
  · exact h2.fr1 hf (by omega) fun blk o e hm => h3 hp blk o e (hS _ hm)
section
variable {w : World}
set_option maxHeartbeats 1000000 in
theorem next_any {bk : Nat} {S : List Nat} {ps : List Int} (h : PkIs w bk S ps) : Calls Try.prog 31 #[.pointer (some ⟨bk, 0, none⟩)] w fun e w' => e = .returned (.int .i64 (pkH ps)) ∧ PkIs w' bk S ps.tail ∧ One bk w w' := by
  obtain ⟨A, c, h1, h2, h3, h4⟩ := h.ex
  have hok := h.ok
  have hln := h.len
  cases ps with
  | nil =>
    have c0 : w.cell? ⟨bk, 0, none⟩ = some (.slice A 0 c) := h1.cell 0
    go_enter Try.func31, Try.ntmps31
    go_wp2
    go_ret
    exact ⟨rfl, h, One.refl _ _⟩
  | cons p ps =>
    rw [List.length_cons] at h1 h4
    have c0 : w.cell? ⟨bk, 0, none⟩ = some (.slice A (ps.length + 1) c) := h1.cell 0
    have z0 := h1.frozen 0
    rcases h2 with h2 | ⟨blk, o, rfl, hb, hr⟩
    · simp at h2
    · have e0 : w.cell? ⟨blk, o, none⟩ = some (.int .i64 p) := hr 0 _ rfl
      have hp0 : okI p := hok p (by simp)
      obtain ⟨hp1, hp2⟩ := hp0
      have hle : ps.length + 1 ≤ 4611686018427387904 := by simpa using hln
      have hnext : ∀ A' c', (A' = some ⟨blk, o + 1, none⟩ ∨ ps = []) → ps.length ≤ c' → PkIs (w.setCell ⟨bk, 0, none⟩ (.slice A' ps.length c')) bk S ps := fun A' c' hA hc => by
        refine ⟨⟨A', c', h1.set 0 _, ?_, ?_, hc⟩, fun q hq => hok q (by simp [hq]), by omega⟩
        · rcases hA with rfl | rfl
          · refine .inr ⟨blk, o + 1, rfl, hb, fun j v hv => ?_⟩
            have := hr (j + 1) v (by simpa using hv)
            rw [show o + 1 + j = o + (j + 1) by omega]
            exact (((One.refl bk w).setCell 0 _).cellAt (p := ⟨blk, o + (j + 1), none⟩) (by simp; omega)).trans this
          · exact .inl rfl
        · intro hne blk' o' e
          rcases hA with rfl | h0
          · injection e with e; injection e with e1 e2
            subst e1
            exact h3 (by simp) _ _ rfl
          · exact absurd h0 hne
      have o1 : ∀ v, One bk w (w.setCell ⟨bk, 0, none⟩ v) := fun v => (One.refl bk w).setCell 0 v
      have hpk : pkH (p :: ps) = pkV p := rfl
      have hne0 : ((ps.length : Int) + 1 == 0) = false := by rw [beq_eq_false_iff_ne]; omega
      rw [hpk]
      by_cases hc1 : c = 1
      · subst hc1
        have hps : ps = [] := List.eq_nil_of_length_eq_zero (by omega)
        subst hps
        by_cases hneg : p < 0
        · have hv : pkV p = -(p + 1) := if_pos hneg
          have hw1 : IntKind.i64.wrap (p + 1) = p + 1 := IntWalk.i64_in _ (by omega)
          have hw2 : IntKind.i64.wrap (-(p + 1)) = -(p + 1) := IntWalk.i64_in _ (by omega)
          rw [hv]
          go_enter Try.func31, Try.ntmps31
          go_wp2
          go_ret
          exact ⟨rfl, hnext _ _ (.inr (by trivial)) (Nat.zero_le _), o1 _⟩
        · have hv : pkV p = p := if_neg hneg
          rw [hv]
          go_enter Try.func31, Try.ntmps31
          go_wp2
          go_ret
          exact ⟨rfl, hnext _ _ (.inr (by trivial)) (Nat.zero_le _), o1 _⟩
      · by_cases hneg : p < 0
        · have hv : pkV p = -(p + 1) := if_pos hneg
          have hw1 : IntKind.i64.wrap (p + 1) = p + 1 := IntWalk.i64_in _ (by omega)
          have hw2 : IntKind.i64.wrap (-(p + 1)) = -(p + 1) := IntWalk.i64_in _ (by omega)
          rw [hv]
          go_enter Try.func31, Try.ntmps31
          go_wp2
          go_ret
          exact ⟨rfl, hnext _ _ (.inl rfl) (by omega), o1 _⟩
        · have hv : pkV p = p := if_neg hneg
          rw [hv]
          go_enter Try.func31, Try.ntmps31
          go_wp2
          go_ret
          exact ⟨rfl, hnext _ _ (.inl rfl) (by omega), o1 _⟩
end
end Go.Proofs.Ytcfbbembggnanaa
