/- For every input the law QueueNumbers returns true, and each argument reads behind the call as it read before. -/
import Derived.Test.YtcleakjjefmmbaaGreatK53
import Derived.Test.YtcleakjjefmmbaaGreatLawKit
namespace Go.Proofs.YtcleakjjefmmbaaGreat.lawQueueNumbers
open Go.ChangeShapes Go.WideShapes Go.ChangeAt Go.RowKit Go.Joins
set_option linter.unusedVariables false

theorem own : ownKnob Tryz.prog.godebug = none := by kernel_rfl
theorem laid : laidOutB Tryz.prog = true := by kernel_rfl
set_option maxRecDepth 100000 in
theorem readable : ∀ t ∈ Tryz.f4.params.toList, Tryz.prog.readableRec t = true ∧ t < Tryz.prog.types.size := of_decide_eq_true (by kernel_rfl)

set_option maxRecDepth 100000 in
theorem contract (H : Type) (enc : TypeId × Value → H) (W : World) (base : Nat) (args : Array Value) (ds gs : List (DataW H)) (before : List MemPlace)
  (hval0 : ∀ (j : Nat) t v, Tryz.f4.params[j]? = some t → args[j]? = some v → Value.okWide Tryz.prog W .any base t v)
  (hW : DataW.Whole enc Tryz.prog Tryz.f4.params.toList Rows.queueNumbersSpec.vars false W args.toList ds gs before) :
  Calls Tryz.prog 4 args W fun e W' => ∃ v, e = .returned v ∧ Rows.queueNumbersSpec.post enc Tryz.prog Tryz.f4 false true false false W args v W' := by
 have hval := hval0
 have hW' := hW
 obtain ⟨p, q, hA0, hV, rfl, hfz, hnd⟩ := hW
 obtain ⟨rfl, rfl⟩ := trodVars_none hV
 have hA : DataW.TrodAll enc Tryz.prog W 0 (fun _ => true) true Tryz.f4.params.toList args.toList ds p := hA0
 rw [Tryz.params4] at hA hval
 obtain ⟨v0, vs0, d0, ds0, p0, q0, hargs, rfl, rfl, h0, r_0⟩ := trodAll_cons hA
 obtain ⟨v1, vs1, d1, ds1, p1, q1, rfl, rfl, rfl, h1, r_1⟩ := trodAll_cons r_0
 obtain ⟨rfl, rfl, rfl⟩ := trodAll_nil r_1
 obtain rfl : args = #[v0, v1] := by cases args; simp_all
 clear hA0 hval0
 obtain ⟨a0, rfl, rfl, rfl, w0⟩ := open_int Tryz.underlying3 (hval 0 3 _ rfl rfl) h0
 obtain ⟨a1, r1, w1⟩ := open_param_slice Tryz.underlying47 Que.cAct23 (by decide) Que.aqC_len (hval 1 47 _ rfl rfl) h1 Que.opens_act23
 exact (Que.queueNumbers_walk W a0 v1 a1 w0 r1 w1).mono fun e W' ⟨he, hk⟩ => ⟨_, he, law_post laid Tryz.underlying4 rfl rfl readable ⟨rfl, rfl, rfl⟩ hW' hk⟩

set_option maxRecDepth 100000 in
theorem lifted (os : Os) (started : os.Started) (H : Type) (enc : TypeId × Value → H) :
  ReturnsInHanded {} Tryz.checked os 4 .any (Rows.queueNumbersSpec.pre6 enc Tryz.prog Tryz.f4 Rows.queueNumbersRow.domain false) (Rows.queueNumbersSpec.post enc Tryz.prog Tryz.f4 false true false false) := by
 refine returnsInHanded_of_change (C := Tryz.checked) own started (by kernel_rfl) Tryz.func4
  (ChangeSpec.witness6 (enc := enc) (C := Tryz.checked) false ⟨#[], #[.int .i64 0, .slice none 0 0], []⟩ 8 (by kernel_rfl) (by kernel_rfl) (by kernel_rfl) (by kernel_rfl)) ?_
 intro W base args ds gs before hval0 hW _ _
 exact contract H enc W base args ds gs before hval0 hW

theorem mapsR : mapsRowed Tryz.prog = true := by kernel_rfl
theorem unf : Tryz.prog.unfollowed 4 = Rows.queueNumbersRow.unfollowed := by kernel_rfl
theorem recu : Tryz.prog.recurses 4 = Rows.queueNumbersRow.recurses := by kernel_rfl
theorem inp : Tryz.prog.inPlace 4 = Rows.queueNumbersRow.inPlace := by kernel_rfl
theorem nam : Tryz.prog.varsNamed 4 = Rows.queueNumbersRow.named := by kernel_rfl
theorem pkey : Tryz.prog.plainKeys = Rows.queueNumbersRow.plainKeys := by kernel_rfl
set_option maxRecDepth 100000 in
theorem closed : joinedFacts Tryz.prog 4 Tryz.f4 Rows.queueNumbersSpec Rows.queueNumbersRow = true := by
 unfold joinedFacts
 rw [laid, mapsR, unf, recu, inp, nam, pkey]
 kernel_rfl
theorem named : Tryz.prog.funcNamed Rows.queueNumbersRow.func = some 4 := by kernel_rfl

theorem proved : Rows.QueueNumbersSaid :=
 OpenClaim.holds_of_wide 4 Tryz.f4 rfl rfl rfl rfl rfl rfl rfl ⟨rfl, rfl, rfl, rfl, rfl⟩ rfl rfl rfl rfl rfl named Tryz.func4 closed
  (of_decide_eq_true (by kernel_rfl)) (by unfold Func.isWrapper; first | (rw [if_pos (by decide +kernel)]; kernel_rfl) | (rw [if_neg (by decide +kernel)]; exact ⟨rfl, rfl⟩))
  (fun os started H enc _ => lifted os started H enc)
#print axioms proved
end Go.Proofs.YtcleakjjefmmbaaGreat.lawQueueNumbers
