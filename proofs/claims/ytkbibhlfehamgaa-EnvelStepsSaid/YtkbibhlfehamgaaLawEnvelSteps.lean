/- For every input the law EnvelSteps returns true, and each argument reads behind the call as it read before. -/
import Derived.Test.YtkbibhlfehamgaaEnvelSteps
import Derived.Test.YtkbibhlfehamgaaLawKit
namespace Go.Proofs.Ytkbibhlfehamgaa.lawEnvelSteps
open Go.ChangeShapes Go.WideShapes Go.ChangeAt Go.RowKit Go.Joins
set_option linter.unusedVariables false

theorem own : ownKnob Try.prog.godebug = none := by kernel_rfl
theorem cells3 : Try.prog.cellsOf 3 = 1 := by kernel_rfl
theorem laid : laidOutB Try.prog = true := by kernel_rfl
set_option maxRecDepth 100000 in
theorem readable : ∀ t ∈ Try.f4.params.toList, Try.prog.readableRec t = true ∧ t < Try.prog.types.size := of_decide_eq_true (by kernel_rfl)

set_option maxRecDepth 100000 in
theorem contract (H : Type) (enc : TypeId × Value → H) (W : World) (base : Nat) (args : Array Value) (ds gs : List (DataW H)) (before : List MemPlace)
  (hval0 : ∀ (j : Nat) t v, Try.f4.params[j]? = some t → args[j]? = some v → Value.okWide Try.prog W .any base t v)
  (hW : DataW.Whole enc Try.prog Try.f4.params.toList Rows.envelStepsSpec.vars false W args.toList ds gs before) :
  Calls Try.prog 4 args W fun e W' => ∃ v, e = .returned v ∧ Rows.envelStepsSpec.post enc Try.prog Try.f4 false true false false W args v W' := by
 have hval := hval0
 have hW' := hW
 obtain ⟨p, q, hA0, hV, rfl, hfz, hnd⟩ := hW
 obtain ⟨rfl, rfl⟩ := trodVars_none hV
 have hA : DataW.TrodAll enc Try.prog W 0 (fun _ => true) true Try.f4.params.toList args.toList ds p := hA0
 rw [Try.params4] at hA hval
 obtain ⟨v0, vs0, d0, ds0, p0, q0, hargs, rfl, rfl, h0, r_0⟩ := trodAll_cons hA
 obtain ⟨v1, vs1, d1, ds1, p1, q1, rfl, rfl, rfl, h1, r_1⟩ := trodAll_cons r_0
 obtain ⟨v2, vs2, d2, ds2, p2, q2, rfl, rfl, rfl, h2, r_2⟩ := trodAll_cons r_1
 obtain ⟨v3, vs3, d3, ds3, p3, q3, rfl, rfl, rfl, h3, r_3⟩ := trodAll_cons r_2
 obtain ⟨rfl, rfl, rfl⟩ := trodAll_nil r_3
 obtain rfl : args = #[v0, v1, v2, v3] := by cases args; simp_all
 clear hA0 hval0
 obtain ⟨a0, rfl, w0⟩ := open_param_struct Try.underlying29 (hval 0 29 _ rfl rfl) h0 Env.opens_job
 obtain ⟨a1, r1, w1⟩ := open_row_ints Try.underlying38 Try.underlying3 cells3 (hval 1 38 _ rfl rfl) h1
 obtain ⟨a2, r2, w2⟩ := open_param_slice Try.underlying27 Env.cSt (by decide) Env.stC_len (hval 2 27 _ rfl rfl) h2 Env.opens_st
 obtain ⟨a3, rfl, rfl, rfl, w3⟩ := open_int Try.underlying3 (hval 3 3 _ rfl rfl) h3
 exact (Env.envelSteps_walk W a0 v1 a1 v2 a2 a3 w0 w1 r1 r2 w2 w3).mono fun e W' ⟨he, hk⟩ => ⟨_, he, law_post laid Try.underlying4 rfl rfl readable ⟨rfl, rfl, rfl⟩ hW' hk⟩

set_option maxRecDepth 100000 in
theorem lifted (os : Os) (started : os.Started) (H : Type) (enc : TypeId × Value → H) :
  ReturnsInHanded {} Try.checked os 4 .any (Rows.envelStepsSpec.pre6 enc Try.prog Try.f4 Rows.envelStepsRow.domain false) (Rows.envelStepsSpec.post enc Try.prog Try.f4 false true false false) := by
 refine returnsInHanded_of_change (C := Try.checked) own started (by kernel_rfl) Try.func4
  (ChangeSpec.witness6 (enc := enc) (C := Try.checked) false ⟨#[], #[.agg #[.int .i64 0, .int .i64 0, .string ByteArray.empty, .string ByteArray.empty, .slice none 0 0, .slice none 0 0, .slice none 0 0], .slice none 0 0, .slice none 0 0, .int .i64 0], []⟩ 8 (by kernel_rfl) (by kernel_rfl) (by kernel_rfl) (by kernel_rfl)) ?_
 intro W base args ds gs before hval0 hW _ _
 exact contract H enc W base args ds gs before hval0 hW

theorem proved : Rows.EnvelStepsSaid :=
 OpenClaim.holds_of_wide 4 Try.f4 rfl rfl rfl rfl rfl rfl rfl ⟨rfl, rfl, rfl, rfl, rfl⟩ rfl rfl rfl rfl rfl (by kernel_rfl) Try.func4 (by kernel_rfl)
  (of_decide_eq_true (by kernel_rfl)) (by unfold Func.isWrapper; first | (rw [if_pos (by decide +kernel)]; kernel_rfl) | (rw [if_neg (by decide +kernel)]; exact ⟨rfl, rfl⟩))
  (fun os started H enc _ => lifted os started H enc)
#print axioms proved
end Go.Proofs.Ytkbibhlfehamgaa.lawEnvelSteps
