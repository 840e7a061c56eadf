/- For every input the law EnvelSame returns true, and each argument reads behind the call as it read before. -/
import Derived.Test.YtkbibhlfehamgaaEnvelSame
import Derived.Test.YtkbibhlfehamgaaLawKit
namespace Go.Proofs.Ytkbibhlfehamgaa.lawEnvelSame
open Go.ChangeShapes Go.WideShapes Go.ChangeAt Go.RowKit Go.Joins
set_option linter.unusedVariables false

theorem own : ownKnob Try.prog.godebug = none := by kernel_rfl
theorem laid : laidOutB Try.prog = true := by kernel_rfl
set_option maxRecDepth 100000 in
theorem readable : ∀ t ∈ Try.f5.params.toList, Try.prog.readableRec t = true ∧ t < Try.prog.types.size := of_decide_eq_true (by kernel_rfl)

set_option maxRecDepth 100000 in
theorem contract (H : Type) (enc : TypeId × Value → H) (W : World) (base : Nat) (args : Array Value) (ds gs : List (DataW H)) (before : List MemPlace)
  (hval0 : ∀ (j : Nat) t v, Try.f5.params[j]? = some t → args[j]? = some v → Value.okWide Try.prog W .any base t v)
  (hW : DataW.Whole enc Try.prog Try.f5.params.toList Rows.envelSameSpec.vars false W args.toList ds gs before) :
  Calls Try.prog 5 args W fun e W' => ∃ v, e = .returned v ∧ Rows.envelSameSpec.post enc Try.prog Try.f5 false true false false W args v W' := by
 have hval := hval0
 have hW' := hW
 obtain ⟨p, q, hA0, hV, rfl, hfz, hnd⟩ := hW
 obtain ⟨rfl, rfl⟩ := trodVars_none hV
 have hA : DataW.TrodAll enc Try.prog W 0 (fun _ => true) true Try.f5.params.toList args.toList ds p := hA0
 rw [Try.params5] at hA hval
 obtain ⟨v0, vs0, d0, ds0, p0, q0, hargs, rfl, rfl, h0, r_0⟩ := trodAll_cons hA
 obtain ⟨v1, vs1, d1, ds1, p1, q1, rfl, rfl, rfl, h1, r_1⟩ := trodAll_cons r_0
 obtain ⟨rfl, rfl, rfl⟩ := trodAll_nil r_1
 obtain rfl : args = #[v0, v1] := by cases args; simp_all
 clear hA0 hval0
 obtain ⟨a0, rfl, w0⟩ := open_param_struct Try.underlying29 (hval 0 29 _ rfl rfl) h0 Env.opens_job
 obtain ⟨a1, rfl, w1⟩ := open_param_struct Try.underlying29 (hval 1 29 _ rfl rfl) h1 Env.opens_job
 exact (Env.envelSame_walk W a0 a1 w0 w1).mono fun e W' ⟨he, hk⟩ => ⟨_, he, law_post laid Try.underlying4 rfl rfl readable ⟨rfl, rfl, rfl⟩ hW' hk⟩

set_option maxRecDepth 100000 in
theorem lifted (os : Os) (started : os.Started) (H : Type) (enc : TypeId × Value → H) :
  ReturnsInHanded {} Try.checked os 5 .any (Rows.envelSameSpec.pre6 enc Try.prog Try.f5 Rows.envelSameRow.domain false) (Rows.envelSameSpec.post enc Try.prog Try.f5 false true false false) := by
 refine returnsInHanded_of_change (C := Try.checked) own started (by kernel_rfl) Try.func5
  (ChangeSpec.witness6 (enc := enc) (C := Try.checked) false ⟨#[], #[.agg #[.int .i64 0, .int .i64 0, .string ByteArray.empty, .string ByteArray.empty, .slice none 0 0, .slice none 0 0, .slice none 0 0], .agg #[.int .i64 0, .int .i64 0, .string ByteArray.empty, .string ByteArray.empty, .slice none 0 0, .slice none 0 0, .slice none 0 0]], []⟩ 8 (by kernel_rfl) (by kernel_rfl) (by kernel_rfl) (by kernel_rfl)) ?_
 intro W base args ds gs before hval0 hW _ _
 exact contract H enc W base args ds gs before hval0 hW

theorem proved : Rows.EnvelSameSaid :=
 OpenClaim.holds_of_wide 5 Try.f5 rfl rfl rfl rfl rfl rfl rfl ⟨rfl, rfl, rfl, rfl, rfl⟩ rfl rfl rfl rfl rfl (by kernel_rfl) Try.func5 (by kernel_rfl)
  (of_decide_eq_true (by kernel_rfl)) (by unfold Func.isWrapper; first | (rw [if_pos (by decide +kernel)]; kernel_rfl) | (rw [if_neg (by decide +kernel)]; exact ⟨rfl, rfl⟩))
  (fun os started H enc _ => lifted os started H enc)
#print axioms proved
end Go.Proofs.Ytkbibhlfehamgaa.lawEnvelSame
