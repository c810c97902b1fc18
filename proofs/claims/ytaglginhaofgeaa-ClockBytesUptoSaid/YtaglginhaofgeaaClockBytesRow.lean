/- ClockBytes: the statement, from the walk. -/
import Derived.Test.YtaglginhaofgeaaRows
import Derived.Test.YtaglginhaofgeaaClkBytesLaw
import Derived.Test.YtaglginhaofgeaaOpen
import Derived.Test.YtaglginhaofgeaaClkBulk
namespace Go.Proofs.Ytaglginhaofgeaa.clockBytes
open Go.ChangeShapes Go.WideShapes Go.ChangeAt Go.RowKit
open Go.ChangeMaps (open_string shut_string)
theorem own : ownKnob Try.prog.godebug = none := by kernel_rfl
theorem laidOut : laidOutB Try.prog = true := by kernel_rfl
set_option maxRecDepth 100000 in
theorem contract (H : Type) (enc : TypeId × Value → H) (W : World) (base : Nat) (args : Array Value) (ds gs : List (DataW H)) (before : List MemPlace)
    (hval : ∀ (j : Nat) t v, Try.f9.params[j]? = some t → args[j]? = some v → Value.okWide Try.prog W .any base t v)
    (hW : DataW.Whole enc Try.prog Try.f9.params.toList Rows.clockBytesSpec.vars false W args.toList ds gs before) (hk : Rows.uptoSmall H (ds ++ gs) = true)
    (hB : (DataW.weightsEach Try.prog (Try.f9.params.toList ++ (OpenSpec.ofChange Rows.clockBytesSpec).bare.plain.varTypes Try.prog) (ds ++ gs)).all (· ≤ reachBytes) = true) :
    Calls Try.prog 9 args W fun e W' => ∃ v, e = .returned v ∧ Rows.clockBytesSpec.post enc Try.prog Try.f9 false true false false W args v W' := by
  have hW' := hW
  obtain ⟨p, q, hA0, hV, rfl, hfz, hnd⟩ := hW
  have hA : DataW.TrodAll enc Try.prog W 0 (fun _ => true) true Try.f9.params.toList args.toList ds p := hA0
  rw [Try.params9] at hA hval hB
  obtain ⟨v0, vs0, d0, ds0, p0, q0, hargs0, rfl, rfl, h0, r0⟩ := trodAll_cons hA
  obtain ⟨v1, vs1, d1, ds1, p1, q1, hargs1, rfl, rfl, h1, r1⟩ := trodAll_cons r0
  obtain ⟨rfl, rfl, rfl⟩ := trodAll_nil r1
  obtain rfl : args = #[v0, v1] := by cases args; simp_all
  obtain ⟨rfl, rfl⟩ := trodVars_none hV
  simp only [List.append_nil] at hk
  obtain ⟨hb0, hc0⟩ := weights_cons hB
  obtain ⟨hb1, hc1⟩ := weights_cons hc0
  obtain ⟨x0, hx0, ok0, ln0, le0⟩ := clk_of (hval 0 23 v0 rfl rfl) h0 hb0
  obtain ⟨a1, b1, c1, rfl⟩ := ints3_of (hval 1 47 v1 rfl rfl) h1
  have l0 := lenD_at (d := d0) hk (by simp)
  have walk : Calls Try.prog 9 #[v0, .agg #[.int .i64 a1, .int .i64 b1, .int .i64 c1]] W fun e w' => e = .returned (.bool true) ∧ Fr W.heap.size [] W w' := bytes_law W v0 x0 a1 b1 c1 hx0 (by omega) ok0
  refine walk.mono fun e W' ⟨he, hf⟩ => ?_
  subst he
  exact ⟨_, rfl, law_post laidOut (by rw [Try.params9]; kernel_rfl) rfl Try.underlying4 rfl hW' rfl hf.to_below⟩
set_option maxRecDepth 100000 in
theorem lifted (os : Os) (started : os.Started) (H : Type) (enc : TypeId × Value → H) (F : Stop.Interp) :
    ReturnsInHanded {} Try.checked os 9 .any ((Rows.OpenSpec.upto Rows.clockBytesSpec).pre6 enc Try.prog Try.f9 Rows.clockBytesUptoRow.domain false) (((Rows.OpenSpec.upto Rows.clockBytesSpec).at F).post enc Try.prog Try.f9 false true false false) := by
  refine returnsInHanded_of_cond_sized (C := Try.checked) (s := Rows.OpenSpec.upto Rows.clockBytesSpec) (k := Rows.uptoSmall) rfl own started (by kernel_rfl) Try.func9
    (OpenSpec.witness (enc := enc) (C := Try.checked) (s := Rows.OpenSpec.upto Rows.clockBytesSpec) (k := Rows.uptoSmall) rfl false ⟨#[], #[Value.slice none 0 0, Value.agg #[.int .i64 0, .int .i64 0, .int .i64 0]], []⟩ 8 (by kernel_rfl) (by kernel_rfl) (by kernel_rfl)
      (x := ([.nil, .agg [.lit (.int .i64 0), .lit (.int .i64 0), .lit (.int .i64 0)]], [], [])) (by kernel_rfl) rfl (by kernel_rfl)) ?_
  intro W base args ds gs before hval hW _ hk hB _
  exact contract H enc W base args ds gs before hval hW hk hB
theorem proved : Rows.ClockBytesUptoSaid :=
  OpenClaim.holds_of_cond 9 Try.f9 rfl rfl rfl rfl rfl rfl rfl ⟨rfl, rfl, rfl, rfl, rfl⟩ rfl rfl rfl rfl rfl (by kernel_rfl) Try.func9 (by kernel_rfl)
    (of_decide_eq_true (by kernel_rfl)) (by unfold Func.isWrapper; first | (rw [if_pos (by decide +kernel)]; kernel_rfl) | (rw [if_neg (by decide +kernel)]; exact ⟨rfl, rfl⟩))
    (fun os started H enc _ F => lifted os started H enc F)
#print axioms proved
end Go.Proofs.Ytaglginhaofgeaa.clockBytes
