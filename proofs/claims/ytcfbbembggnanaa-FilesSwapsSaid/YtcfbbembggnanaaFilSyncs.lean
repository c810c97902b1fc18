/- Sync. -/
import Derived.Test.YtcfbbembggnanaaFilEach
namespace Go.Proofs.Ytcfbbembggnanaa
open Go.RowKit Go.Maps
def firmD (D : FD) (x : Key) : FD := D.map fun d => if d.1 = x then (x, (d.2.1, (⟨d.2.2.bs, d.2.2.bs.length⟩ : Fl))) else d
theorem firmD_is {D : FD} (hn : (D.map Prod.fst).Nodup) {x : Key} {b : Nat} {fl : Fl} (hm : (x, (b, fl)) ∈ D) : (D.map fun d => if d.1 = x then (x, (d.2.1, (⟨fl.bs, fl.bs.length⟩ : Fl))) else d) = firmD D x := by
  unfold firmD
  refine List.map_congr_left fun d hd => ?_
  by_cases e : d.1 = x
  · have : d = (x, (b, fl)) := nodup_eq hn hd hm e
    subst this
    rfl
  · rw [if_neg e, if_neg e]
section
variable {w : World} {g : Nat} {F : List Nat} {room left steps : Int} {on : Bool} {D : FD}
set_option maxHeartbeats 1000000 in
theorem sync_any (hd : DkIs w g F room left steps on D) (A : Option Addr) (c : Nat) (xs : List Key) (hA : ARow w w.heap.size A (xs.map KV)) (hAF : xs ≠ [] → ∀ blk o, A = some ⟨blk, o, none⟩ → blk ∉ F) (hl : xs.length ≤ 1000000) (hl0 : 0 ≤ left) (hl1 : left ≤ 9223372036854775807) (hs0 : 0 ≤ steps) (hs1 : steps ≤ 1000000000) :
    Calls Try.prog 12 #[.pointer (some ⟨g, 0, none⟩), .slice A xs.length c] w fun e w' =>
      e = .returned (.int .i64 (eachS firmD xs ⟨D, left, steps, on⟩).1) ∧ DkIs w' g F room (eachS firmD xs ⟨D, left, steps, on⟩).2.left (eachS firmD xs ⟨D, left, steps, on⟩).2.steps (eachS firmD xs ⟨D, left, steps, on⟩).2.on (eachS firmD xs ⟨D, left, steps, on⟩).2.D ∧ Fr w.heap.size F w w' := by
  have he := each_any hd 29 #[] firmD (enters_of Try.func29 (by kernel_rfl) rfl) (fun W l' s' o' D' x b fl d1 hm hf _ => by
    refine (syncF_any d1 hm).mono fun e w' ⟨h1, h2, h3⟩ => ⟨h1, by rw [← firmD_is d1.nod hm]; exact h2, (Fr.refl _ _ _).one h3 (.inl (d1.files _ hm).2)⟩) A c hA hAF hl hl0 hl1 hs0 hs1
  obtain ⟨R, hR⟩ : ∃ R, eachS firmD xs ⟨D, left, steps, on⟩ = R := ⟨_, rfl⟩
  rw [hR] at he ⊢
  go_enter Try.func12, Try.ntmps12
  go_wp2_with (go_at_call 28; (refine he.mono ?_); rintro e w2 ⟨rfl, h2, h3⟩)
  go_ret
  exact ⟨rfl, h2, h3⟩
end
end Go.Proofs.Ytcfbbembggnanaa
