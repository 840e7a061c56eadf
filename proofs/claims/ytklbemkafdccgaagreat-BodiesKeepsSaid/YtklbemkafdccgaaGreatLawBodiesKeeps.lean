/- For every input the law BodiesKeeps returns true, and each argument reads behind the call as it read before. -/
import Derived.Test.YtklbemkafdccgaaGreatBodiesKeeps
import Derived.Test.YtklbemkafdccgaaGreatLawKit
namespace Go.Proofs.YtklbemkafdccgaaGreat.lawBodiesKeeps
open Go.ChangeShapes Go.WideShapes Go.ChangeAt Go.RowKit Go.Joins
set_option linter.unusedVariables false

theorem own : ownKnob Tryz.prog.godebug = none := by kernel_rfl
theorem cells3 : Tryz.prog.cellsOf 3 = 1 := by kernel_rfl
theorem laid : laidOutB Tryz.prog = true := by kernel_rfl
set_option maxRecDepth 100000 in
theorem readable : ∀ t ∈ Tryz.f6.params.toList, Tryz.prog.readableRec t = true ∧ t < Tryz.prog.types.size := of_decide_eq_true (by kernel_rfl)

set_option maxRecDepth 100000 in
theorem contract (H : Type) (enc : TypeId × Value → H) (W : World) (base : Nat) (args : Array Value) (ds gs : List (DataW H)) (before : List MemPlace)
  (hval0 : ∀ (j : Nat) t v, Tryz.f6.params[j]? = some t → args[j]? = some v → Value.okWide Tryz.prog W .any base t v)
  (hW : DataW.Whole enc Tryz.prog Tryz.f6.params.toList Rows.bodiesKeepsSpec.vars false W args.toList ds gs before) :
  Calls Tryz.prog 6 args W fun e W' => ∃ v, e = .returned v ∧ Rows.bodiesKeepsSpec.post enc Tryz.prog Tryz.f6 false true false false W args v W' := by
 have hval := hval0
 have hW' := hW
 obtain ⟨p, q, hA0, hV, rfl, hfz, hnd⟩ := hW
 obtain ⟨rfl, rfl⟩ := trodVars_none hV
 have hA : DataW.TrodAll enc Tryz.prog W 0 (fun _ => true) true Tryz.f6.params.toList args.toList ds p := hA0
 rw [Tryz.params6] at hA hval
 obtain ⟨v0, vs0, d0, ds0, p0, q0, hargs, rfl, rfl, h0, r_0⟩ := trodAll_cons hA
 obtain ⟨v1, vs1, d1, ds1, p1, q1, rfl, rfl, rfl, h1, r_1⟩ := trodAll_cons r_0
 obtain ⟨rfl, rfl, rfl⟩ := trodAll_nil r_1
 obtain rfl : args = #[v0, v1] := by cases args; simp_all
 clear hA0 hval0
 obtain ⟨a0, r0, w0⟩ := open_param_slice Tryz.underlying62 Frm.c22 (by decide) Frm.payC_len (hval 0 62 _ rfl rfl) h0 Frm.opens_pay
 obtain ⟨a1, r1, w1⟩ := open_row_ints Tryz.underlying57 Tryz.underlying3 cells3 (hval 1 57 _ rfl rfl) h1
 exact (Bds.bodiesKeeps_walk W v0 a0 v1 a1 r0 w0 w1 r1).mono fun e W' ⟨he, hk⟩ => ⟨_, he, law_post laid Tryz.underlying4 rfl rfl readable ⟨rfl, rfl, rfl⟩ hW' hk⟩

set_option maxRecDepth 100000 in
theorem lifted (os : Os) (started : os.Started) (H : Type) (enc : TypeId × Value → H) :
  ReturnsInHanded {} Tryz.checked os 6 .any (Rows.bodiesKeepsSpec.pre6 enc Tryz.prog Tryz.f6 Rows.bodiesKeepsRow.domain false) (Rows.bodiesKeepsSpec.post enc Tryz.prog Tryz.f6 false true false false) := by
 refine returnsInHanded_of_change (C := Tryz.checked) own started (by kernel_rfl) Tryz.func6
  (ChangeSpec.witness6 (enc := enc) (C := Tryz.checked) false ⟨#[], #[.slice none 0 0, .slice none 0 0], []⟩ 8 (by kernel_rfl) (by kernel_rfl) (by kernel_rfl) (by kernel_rfl)) ?_
 intro W base args ds gs before hval0 hW _ _
 exact contract H enc W base args ds gs before hval0 hW

theorem mapsR : mapsRowed Tryz.prog = true := by kernel_rfl
theorem unf : Tryz.prog.unfollowed 6 = Rows.bodiesKeepsRow.unfollowed := by kernel_rfl
theorem recu : Tryz.prog.recurses 6 = Rows.bodiesKeepsRow.recurses := by kernel_rfl
theorem inp : Tryz.prog.inPlace 6 = Rows.bodiesKeepsRow.inPlace := by kernel_rfl
theorem nam : Tryz.prog.varsNamed 6 = Rows.bodiesKeepsRow.named := by kernel_rfl
theorem pkey : Tryz.prog.plainKeys = Rows.bodiesKeepsRow.plainKeys := by kernel_rfl
set_option maxRecDepth 100000 in
theorem closed : joinedFacts Tryz.prog 6 Tryz.f6 Rows.bodiesKeepsSpec Rows.bodiesKeepsRow = true := by
 unfold joinedFacts
 rw [laid, mapsR, unf, recu, inp, nam, pkey]
 kernel_rfl
theorem named : Tryz.prog.funcNamed Rows.bodiesKeepsRow.func = some 6 := by kernel_rfl

theorem proved : Rows.BodiesKeepsSaid :=
 OpenClaim.holds_of_wide 6 Tryz.f6 rfl rfl rfl rfl rfl rfl rfl ⟨rfl, rfl, rfl, rfl, rfl⟩ rfl rfl rfl rfl rfl named Tryz.func6 closed
  (of_decide_eq_true (by kernel_rfl)) (by unfold Func.isWrapper; first | (rw [if_pos (by decide +kernel)]; kernel_rfl) | (rw [if_neg (by decide +kernel)]; exact ⟨rfl, rfl⟩))
  (fun os started H enc _ => lifted os started H enc)
#print axioms proved
end Go.Proofs.YtklbemkafdccgaaGreat.lawBodiesKeeps
