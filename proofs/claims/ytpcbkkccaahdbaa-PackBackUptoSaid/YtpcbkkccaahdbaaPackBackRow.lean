/- PackBack: the statement, from the walk. -/
import Derived.Test.YtpcbkkccaahdbaaRows
import Derived.Test.YtpcbkkccaahdbaaPackBack
import Derived.Test.YtpcbkkccaahdbaaOpen
import Derived.Test.YtpcbkkccaahdbaaPackBulk
namespace Go.Proofs.Ytpcbkkccaahdbaa.packBack
open Go.ChangeShapes Go.WideShapes Go.ChangeAt Go.RowKit
open Go.ChangeMaps (open_string shut_string)
open Pk
theorem own : ownKnob Try.prog.godebug = none := by kernel_rfl
theorem laidOut : laidOutB Try.prog = true := by kernel_rfl
theorem contract (H : Type) (enc : TypeId × Value → H) (W : World) (base : Nat) (args : Array Value) (ds gs : List (DataW H)) (before : List MemPlace)
    (hval : ∀ (j : Nat) t v, Try.f6.params[j]? = some t → args[j]? = some v → Value.okWide Try.prog W .any base t v)
    (hW : DataW.Whole enc Try.prog Try.f6.params.toList Rows.packBackSpec.vars false W args.toList ds gs before) (hk : Rows.uptoSmall H (ds ++ gs) = true)
    (hB : (DataW.weightsEach Try.prog (Try.f6.params.toList ++ (OpenSpec.ofChange Rows.packBackSpec).bare.plain.varTypes Try.prog) (ds ++ gs)).all (· ≤ reachBytes) = true) :
    Calls Try.prog 6 args W fun e W' => ∃ v, e = .returned v ∧ Rows.packBackSpec.post enc Try.prog Try.f6 false true false false W args v W' := by
  have hW' := hW
  obtain ⟨p, q, hA0, hV, rfl, hfz, hnd⟩ := hW
  have hA : DataW.TrodAll enc Try.prog W 0 (fun _ => true) true Try.f6.params.toList args.toList ds p := hA0
  rw [Try.params6] at hA hval hB
  obtain ⟨v0, vs0, d0, ds0, p0, q0, hargs0, rfl, rfl, h0, r0⟩ := trodAll_cons hA
  obtain ⟨v1, vs1, d1, ds1, p1, q1, hargs1, rfl, rfl, h1, r1⟩ := trodAll_cons r0
  obtain ⟨rfl, rfl, rfl⟩ := trodAll_nil r1
  obtain rfl : args = #[v0, v1] := by cases args; simp_all
  obtain ⟨rfl, rfl⟩ := trodVars_none hV
  simp only [List.append_nil] at hk
  obtain ⟨hb0, hc0⟩ := weights_cons hB
  obtain ⟨hb1, hc1⟩ := weights_cons hc0
  obtain ⟨A0, c0, t0, rfl, ha0, _, _, ok0, dt0⟩ := things_of (hval 0 22 v0 rfl rfl) h0
  obtain ⟨n1, rfl, rfl, rfl, wf1⟩ := open_int Try.underlying3 (hval 1 3 v1 rfl rfl) h1
  obtain ⟨lo1, hi1⟩ := bounds_i64 wf1
  have hbb := bulk_bound hk
  simp only [Rows.uptoBulkAll] at hbb
  have hB0 := things_bulk ok0 dt0 (by omega)
  have hsum : ((t0.map norm0).flatMap thB).length ≤ 100000000 := by
    have : (t0.map norm0).flatMap thB = t0.flatMap thB := by
      rw [List.flatMap_map]
      congr 1
      funext t
      unfold norm0
      split
      · rename_i h; unfold thB; simp only [h]; rfl
      · rfl
    rw [this]
    have := hB0.sum
    omega
  have walk : Calls Try.prog 6 #[.slice A0 t0.length c0, .int .i64 n1] W fun e w' => e = .returned (.bool true) ∧ Fr W.heap.size [] W w' := back_walk W A0 c0 t0 (t0.map norm0) n1 lo1 hi1 rfl ha0 (by have := hB0.len; omega) hsum (fun u hu => by obtain ⟨t, ht, rfl⟩ := List.mem_map.1 hu; exact ⟨norm0_kind t, norm0_ok (ok0 t ht), by rw [norm0_s]; have := hB0.each t ht; omega⟩)
  refine walk.mono fun e W' ⟨he, hf⟩ => ?_
  subst he
  exact ⟨_, rfl, law_post laidOut (by rw [Try.params6]; kernel_rfl) rfl Try.underlying4 rfl hW' rfl hf.to_below⟩
set_option maxRecDepth 100000 in
theorem lifted (os : Os) (started : os.Started) (H : Type) (enc : TypeId × Value → H) (F : Stop.Interp) :
    ReturnsInHanded {} Try.checked os 6 .any ((Rows.OpenSpec.upto Rows.packBackSpec).pre6 enc Try.prog Try.f6 Rows.packBackUptoRow.domain false) (((Rows.OpenSpec.upto Rows.packBackSpec).at F).post enc Try.prog Try.f6 false true false false) := by
  refine returnsInHanded_of_cond_sized (C := Try.checked) (s := Rows.OpenSpec.upto Rows.packBackSpec) (k := Rows.uptoSmall) rfl own started (by kernel_rfl) Try.func6
    (OpenSpec.witness (enc := enc) (C := Try.checked) (s := Rows.OpenSpec.upto Rows.packBackSpec) (k := Rows.uptoSmall) rfl false ⟨#[], #[Value.slice none 0 0, Value.int .i64 0], []⟩ 8 (by kernel_rfl) (by kernel_rfl) (by kernel_rfl)
      (x := ([.nil, .lit (.int .i64 0)], [], [])) (by kernel_rfl) rfl (by kernel_rfl)) ?_
  intro W base args ds gs before hval hW _ hk hB _
  exact contract H enc W base args ds gs before hval hW hk hB
theorem proved : Rows.PackBackUptoSaid :=
  OpenClaim.holds_of_cond 6 Try.f6 rfl rfl rfl rfl rfl rfl rfl ⟨rfl, rfl, rfl, rfl, rfl⟩ rfl rfl rfl rfl rfl (by kernel_rfl) Try.func6 (by kernel_rfl)
    (of_decide_eq_true (by kernel_rfl)) (by unfold Func.isWrapper; first | (rw [if_pos (by decide +kernel)]; kernel_rfl) | (rw [if_neg (by decide +kernel)]; exact ⟨rfl, rfl⟩))
    (fun os started H enc _ F => lifted os started H enc F)
#print axioms proved
end Go.Proofs.Ytpcbkkccaahdbaa.packBack
