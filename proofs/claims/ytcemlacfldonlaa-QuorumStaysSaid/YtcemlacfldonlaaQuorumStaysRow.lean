/- QuorumStays: the statement, from the walk. -/
import Derived.Test.YtcemlacfldonlaaRows
import Derived.Test.YtcemlacfldonlaaQuoOpen2
import Derived.Test.YtcemlacfldonlaaOpen
namespace Go.Proofs.Ytcemlacfldonlaa.quorumStays
open Go.ChangeShapes Go.WideShapes Go.ChangeAt Go.RowKit
open Go.ChangeMaps (open_string shut_string)
theorem own : ownKnob Try.prog.godebug = none := by kernel_rfl
theorem laidOut : laidOutB Try.prog = true := by kernel_rfl
set_option maxRecDepth 100000 in
theorem contract (H : Type) (enc : TypeId × Value → H) (W : World) (base : Nat) (args : Array Value) (ds gs : List (DataW H)) (before : List MemPlace)
    (hval : ∀ (j : Nat) t v, Try.f3.params[j]? = some t → args[j]? = some v → Value.okWide Try.prog W .any base t v)
    (hW : DataW.Whole enc Try.prog Try.f3.params.toList Rows.quorumStaysSpec.vars false W args.toList ds gs before)
    (hB : (DataW.weightsEach Try.prog (Try.f3.params.toList ++ (OpenSpec.ofChange Rows.quorumStaysSpec).bare.plain.varTypes Try.prog) (ds ++ gs)).all (· ≤ reachBytes) = true) :
    Calls Try.prog 3 args W fun e W' => ∃ v, e = .returned v ∧ Rows.quorumStaysSpec.post enc Try.prog Try.f3 false true false false W args v W' := by
  have hW' := hW
  obtain ⟨p, q, hA0, hV, rfl, hfz, hnd⟩ := hW
  have hA : DataW.TrodAll enc Try.prog W 0 (fun _ => true) true Try.f3.params.toList args.toList ds p := hA0
  rw [Try.params3] at hA hval hB
  obtain ⟨v0, vs0, d0, ds0, p0, q0, hargs0, rfl, rfl, h0, r0⟩ := trodAll_cons hA
  obtain ⟨v1, vs1, d1, ds1, p1, q1, hargs1, rfl, rfl, h1, r1⟩ := trodAll_cons r0
  obtain ⟨v2, vs2, d2, ds2, p2, q2, hargs2, rfl, rfl, h2, r2⟩ := trodAll_cons r1
  obtain ⟨rfl, rfl, rfl⟩ := trodAll_nil r2
  obtain rfl : args = #[v0, v1, v2] := by cases args; simp_all
  obtain ⟨rfl, rfl⟩ := trodVars_none hV
  obtain ⟨hb0, hc0⟩ := weights_cons hB
  obtain ⟨hb1, hc1⟩ := weights_cons hc0
  obtain ⟨hb2, hc2⟩ := weights_cons hc1
  obtain ⟨A0, c0, t0, rfl, ha0, lc0⟩ := targets_of (hval 0 22 v0 rfl rfl) h0
  obtain ⟨a1, b1, rfl⟩ := need_of (hval 1 24 v1 rfl rfl) h1
  obtain ⟨A2, c2, t2, rfl, ha2⟩ := ops_of (hval 2 25 v2 rfl rfl) h2
  have walk : Calls Try.prog 3 #[.slice A0 t0.length c0, .agg #[.int .i64 a1, .int .i64 b1], .slice A2 t2.length c2] W fun e w' => e = .returned (.bool true) ∧ Fr W.heap.size [] W w' := stays_law W a1 b1 A0 A2 c0 c2 t0 t2 ha0 lc0 ha2
  refine walk.mono fun e W' ⟨he, hf⟩ => ?_
  subst he
  exact ⟨_, rfl, law_post laidOut (by rw [Try.params3]; kernel_rfl) rfl Try.underlying4 rfl hW' rfl hf.to_below⟩
set_option maxRecDepth 100000 in
theorem lifted (os : Os) (started : os.Started) (H : Type) (enc : TypeId × Value → H) :
    ReturnsInHanded {} Try.checked os 3 .any (Rows.quorumStaysSpec.pre6 enc Try.prog Try.f3 Rows.quorumStaysRow.domain false) (Rows.quorumStaysSpec.post enc Try.prog Try.f3 false true false false) := by
  refine returnsInHanded_of_change_sized (C := Try.checked) own started (by kernel_rfl) Try.func3
    (ChangeSpec.witness6 (enc := enc) (C := Try.checked) false ⟨#[], #[Value.slice none 0 0, Value.agg #[.int .i64 0, .int .i64 0], Value.slice none 0 0], []⟩ 8 (by kernel_rfl) (by kernel_rfl) (by kernel_rfl) (by kernel_rfl)) ?_
  intro W base args ds gs before hval hW _ hB _
  exact contract H enc W base args ds gs before hval hW hB
theorem proved : Rows.QuorumStaysSaid :=
  OpenClaim.holds_of_wide 3 Try.f3 rfl rfl rfl rfl rfl rfl rfl ⟨rfl, rfl, rfl, rfl, rfl⟩ rfl rfl rfl rfl rfl (by kernel_rfl) Try.func3 (by kernel_rfl)
    (of_decide_eq_true (by kernel_rfl)) (by unfold Func.isWrapper; first | (rw [if_pos (by decide +kernel)]; kernel_rfl) | (rw [if_neg (by decide +kernel)]; exact ⟨rfl, rfl⟩))
    (fun os started H enc _ => lifted os started H enc)
#print axioms proved
end Go.Proofs.Ytcemlacfldonlaa.quorumStays
