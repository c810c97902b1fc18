/- FilesSwaps: the statement, from the walk. -/
import Derived.Test.YtcfbbembggnanaaRows
import Derived.Test.YtcfbbembggnanaaFilSwaps
import Derived.Test.YtcfbbembggnanaaOpen
namespace Go.Proofs.Ytcfbbembggnanaa.filesSwaps
open Go.ChangeShapes Go.WideShapes Go.ChangeAt Go.RowKit
open Go.ChangeMaps (open_string shut_string)
theorem own : ownKnob Try.prog.godebug = none := by kernel_rfl
theorem laidOut : laidOutB Try.prog = true := by kernel_rfl
set_option maxRecDepth 100000 in
theorem contract (H : Type) (enc : TypeId × Value → H) (W : World) (base : Nat) (args : Array Value) (ds gs : List (DataW H)) (before : List MemPlace)
    (hval : ∀ (j : Nat) t v, Try.f7.params[j]? = some t → args[j]? = some v → Value.okWide Try.prog W .any base t v)
    (hW : DataW.Whole enc Try.prog Try.f7.params.toList Rows.filesSwapsSpec.vars false W args.toList ds gs before)
    (hB : (DataW.weightsEach Try.prog (Try.f7.params.toList ++ (OpenSpec.ofChange Rows.filesSwapsSpec).bare.plain.varTypes Try.prog) (ds ++ gs)).all (· ≤ reachBytes) = true) :
    Calls Try.prog 7 args W fun e W' => ∃ v, e = .returned v ∧ Rows.filesSwapsSpec.post enc Try.prog Try.f7 false true false false W args v W' := by
  have hW' := hW
  obtain ⟨p, q, hA0, hV, rfl, hfz, hnd⟩ := hW
  have hA : DataW.TrodAll enc Try.prog W 0 (fun _ => true) true Try.f7.params.toList args.toList ds p := hA0
  rw [Try.params7] at hA hval hB
  obtain ⟨v0, vs0, d0, ds0, p0, q0, hargs0, rfl, rfl, h0, r0⟩ := trodAll_cons hA
  obtain ⟨v1, vs1, d1, ds1, p1, q1, hargs1, rfl, rfl, h1, r1⟩ := trodAll_cons r0
  obtain ⟨v2, vs2, d2, ds2, p2, q2, hargs2, rfl, rfl, h2, r2⟩ := trodAll_cons r1
  obtain ⟨rfl, rfl, rfl⟩ := trodAll_nil r2
  obtain rfl : args = #[v0, v1, v2] := by cases args; simp_all
  obtain ⟨rfl, rfl⟩ := trodVars_none hV
  obtain ⟨hb0, hc0⟩ := weights_cons hB
  obtain ⟨hb1, hc1⟩ := weights_cons hc0
  obtain ⟨hb2, hc2⟩ := weights_cons hc1
  obtain ⟨A0, c0, t0, rfl, ha0, lc0, ln0, bd0⟩ := texts_of (hval 0 22 v0 rfl rfl) h0 hb0
  obtain ⟨A1, c1, t1, rfl, ha1, lc1, ln1, ok1⟩ := nums_of (hval 1 23 v1 rfl rfl) h1 hb1
  obtain ⟨A2, c2, t2, rfl, ha2, lc2, ln2, ok2⟩ := nums_of (hval 2 23 v2 rfl rfl) h2 hb2
  have walk : Calls Try.prog 7 #[.slice A0 t0.length c0, .slice A1 t1.length c1, .slice A2 t2.length c2] W fun e w' => e = .returned (.bool true) ∧ Fr W.heap.size [] W w' := swaps_law W A0 A1 A2 c0 c1 c2 t0 t1 t2 ha0 ha1 ha2 bd0 lc2 ln2 ok2
  refine walk.mono fun e W' ⟨he, hf⟩ => ?_
  subst he
  exact ⟨_, rfl, law_post laidOut (by rw [Try.params7]; kernel_rfl) rfl Try.underlying4 rfl hW' rfl hf.to_below⟩
set_option maxRecDepth 100000 in
theorem lifted (os : Os) (started : os.Started) (H : Type) (enc : TypeId × Value → H) :
    ReturnsInHanded {} Try.checked os 7 .any (Rows.filesSwapsSpec.pre6 enc Try.prog Try.f7 Rows.filesSwapsRow.domain false) (Rows.filesSwapsSpec.post enc Try.prog Try.f7 false true false false) := by
  refine returnsInHanded_of_change_sized (C := Try.checked) own started (by kernel_rfl) Try.func7
    (ChangeSpec.witness6 (enc := enc) (C := Try.checked) false ⟨#[], #[Value.slice none 0 0, Value.slice none 0 0, Value.slice none 0 0], []⟩ 8 (by kernel_rfl) (by kernel_rfl) (by kernel_rfl) (by kernel_rfl)) ?_
  intro W base args ds gs before hval hW _ hB _
  exact contract H enc W base args ds gs before hval hW hB
theorem proved : Rows.FilesSwapsSaid :=
  OpenClaim.holds_of_wide 7 Try.f7 rfl rfl rfl rfl rfl rfl rfl ⟨rfl, rfl, rfl, rfl, rfl⟩ rfl rfl rfl rfl rfl (by kernel_rfl) Try.func7 (by kernel_rfl)
    (of_decide_eq_true (by kernel_rfl)) (by unfold Func.isWrapper; first | (rw [if_pos (by decide +kernel)]; kernel_rfl) | (rw [if_neg (by decide +kernel)]; exact ⟨rfl, rfl⟩))
    (fun os started H enc _ => lifted os started H enc)
#print axioms proved
end Go.Proofs.Ytcfbbembggnanaa.filesSwaps
