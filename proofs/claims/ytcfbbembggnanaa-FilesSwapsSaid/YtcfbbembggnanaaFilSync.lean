/- Sync's step with one file. -/
import Derived.Test.YtcfbbembggnanaaFilPut
namespace Go.Proofs.Ytcfbbembggnanaa
open Go.RowKit Go.Maps
section
variable {w : World} {g : Nat} {F : List Nat} {room left steps : Int} {on : Bool} {D : FD}
set_option maxHeartbeats 1000000 in
theorem syncF_any (hd : DkIs w g F room left steps on D) {x : Key} {b : Nat} {fl : Fl} (hm : (x, (b, fl)) ∈ D) :
    Calls Try.prog 29 #[.pointer (some ⟨b, 0, none⟩)] w fun e w' => e = .returned (.tuple #[]) ∧ DkIs w' g F room left steps on (D.map fun d => if d.1 = x then (x, (d.2.1, (⟨fl.bs, fl.bs.length⟩ : Fl))) else d) ∧ One b w w' := by
  obtain ⟨h5, h6⟩ := hd.files _ hm
  simp only at h5 h6
  have hsz := size_any w b fl.bs (h5.cell 0)
  have c1 : w.cell? ⟨b, 1, none⟩ = some (.int .i64 (fl.firm : Int)) := h5.cell 1
  have z1 := h5.frozen 1
  have o1 := (One.refl b w).setCell 1 (.int .i64 (fl.bs.length : Int))
  have d1 := hd.file hm o1 ⟨fl.bs, fl.bs.length⟩ (h5.set 1 (.int .i64 (fl.bs.length : Int)))
  go_enter Try.func29, Try.ntmps29
  go_wp2_with (go_at_call 30; (refine hsz.mono ?_); rintro e w2 ⟨rfl, rfl⟩)
  refine bodyPost_end (v := .tuple #[]) (by simp [results, Try.results29, go_sem]) rfl ⟨rfl, d1, o1⟩
end
end Go.Proofs.Ytcfbbembggnanaa
