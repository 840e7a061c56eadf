/- For every input the law BodiesOnce returns true, and each argument reads behind the call as it read before. -/
import Derived.Test.YtklbemkafdccgaaGreatK49
import Derived.Test.YtklbemkafdccgaaGreatLawKit
namespace Go.Proofs.YtklbemkafdccgaaGreat.lawBodiesOnce
open Go.ChangeShapes Go.WideShapes Go.ChangeAt Go.RowKit Go.Joins
set_option linter.unusedVariables false

theorem own : ownKnob Tryz.prog.godebug = none := by kernel_rfl
theorem laid : laidOutB Tryz.prog = true := by kernel_rfl
set_option maxRecDepth 100000 in
theorem readable : ∀ t ∈ Tryz.f5.params.toList, Tryz.prog.readableRec t = true ∧ t < Tryz.prog.types.size := of_decide_eq_true (by kernel_rfl)

set_option maxRecDepth 100000 in
theorem contract (H : Type) (enc : TypeId × Value → H) (W : World) (base : Nat) (args : Array Value) (ds gs : List (DataW H)) (before : List MemPlace)
  (hval0 : ∀ (j : Nat) t v, Tryz.f5.params[j]? = some t → args[j]? = some v → Value.okWide Tryz.prog W .any base t v)
  (hW : DataW.Whole enc Tryz.prog Tryz.f5.params.toList Rows.bodiesOnceSpec.vars false W args.toList ds gs before) :
  Calls Tryz.prog 5 args W fun e W' => ∃ v, e = .returned v ∧ Rows.bodiesOnceSpec.post enc Tryz.prog Tryz.f5 false true false false W args v W' := by
 have hval := hval0
 have hW' := hW
 obtain ⟨p, q, hA0, hV, rfl, hfz, hnd⟩ := hW
 obtain ⟨rfl, rfl⟩ := trodVars_none hV
 have hA : DataW.TrodAll enc Tryz.prog W 0 (fun _ => true) true Tryz.f5.params.toList args.toList ds p := hA0
 rw [Tryz.params5] at hA hval
 obtain ⟨v0, vs0, d0, ds0, p0, q0, hargs, rfl, rfl, h0, r_0⟩ := trodAll_cons hA
 obtain ⟨rfl, rfl, rfl⟩ := trodAll_nil r_0
 obtain rfl : args = #[v0] := by cases args; simp_all
 clear hA0 hval0
 obtain ⟨a0, r0, w0⟩ := open_param_slice Tryz.underlying62 Frm.c22 (by decide) Frm.payC_len (hval 0 62 _ rfl rfl) h0 Frm.opens_pay
 exact (Bds.bodiesOnce_walk W v0 a0 r0 w0).mono fun e W' ⟨he, hk⟩ => ⟨_, he, law_post laid Tryz.underlying4 rfl rfl readable ⟨rfl, rfl, rfl⟩ hW' hk⟩

set_option maxRecDepth 100000 in
theorem lifted (os : Os) (started : os.Started) (H : Type) (enc : TypeId × Value → H) :
  ReturnsInHanded {} Tryz.checked os 5 .any (Rows.bodiesOnceSpec.pre6 enc Tryz.prog Tryz.f5 Rows.bodiesOnceRow.domain false) (Rows.bodiesOnceSpec.post enc Tryz.prog Tryz.f5 false true false false) := by
 refine returnsInHanded_of_change (C := Tryz.checked) own started (by kernel_rfl) Tryz.func5
  (ChangeSpec.witness6 (enc := enc) (C := Tryz.checked) false ⟨#[], #[.slice none 0 0], []⟩ 8 (by kernel_rfl) (by kernel_rfl) (by kernel_rfl) (by kernel_rfl)) ?_
 intro W base args ds gs before hval0 hW _ _
 exact contract H enc W base args ds gs before hval0 hW

theorem mapsR : mapsRowed Tryz.prog = true := by kernel_rfl
theorem unf : Tryz.prog.unfollowed 5 = Rows.bodiesOnceRow.unfollowed := by kernel_rfl
theorem recu : Tryz.prog.recurses 5 = Rows.bodiesOnceRow.recurses := by kernel_rfl
theorem inp : Tryz.prog.inPlace 5 = Rows.bodiesOnceRow.inPlace := by kernel_rfl
theorem nam : Tryz.prog.varsNamed 5 = Rows.bodiesOnceRow.named := by kernel_rfl
theorem pkey : Tryz.prog.plainKeys = Rows.bodiesOnceRow.plainKeys := by kernel_rfl
set_option maxRecDepth 100000 in
theorem closed : joinedFacts Tryz.prog 5 Tryz.f5 Rows.bodiesOnceSpec Rows.bodiesOnceRow = true := by
 unfold joinedFacts
 rw [laid, mapsR, unf, recu, inp, nam, pkey]
 kernel_rfl
theorem named : Tryz.prog.funcNamed Rows.bodiesOnceRow.func = some 5 := by kernel_rfl

theorem proved : Rows.BodiesOnceSaid :=
 OpenClaim.holds_of_wide 5 Tryz.f5 rfl rfl rfl rfl rfl rfl rfl ⟨rfl, rfl, rfl, rfl, rfl⟩ rfl rfl rfl rfl rfl named Tryz.func5 closed
  (of_decide_eq_true (by kernel_rfl)) (by unfold Func.isWrapper; first | (rw [if_pos (by decide +kernel)]; kernel_rfl) | (rw [if_neg (by decide +kernel)]; exact ⟨rfl, rfl⟩))
  (fun os started H enc _ => lifted os started H enc)
#print axioms proved
end Go.Proofs.YtklbemkafdccgaaGreat.lawBodiesOnce
