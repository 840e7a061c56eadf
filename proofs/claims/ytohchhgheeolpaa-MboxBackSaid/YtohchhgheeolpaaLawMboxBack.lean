/- For every input the law MboxBack returns true, and each argument reads behind the call as it read before. -/
import Derived.Test.YtohchhgheeolpaaMboxBack
import Derived.Test.YtohchhgheeolpaaLawKit
namespace Go.Proofs.Ytohchhgheeolpaa.lawMboxBack
open Go.ChangeShapes Go.WideShapes Go.ChangeAt Go.RowKit Go.Joins
set_option linter.unusedVariables false

theorem own : ownKnob Try.prog.godebug = none := by kernel_rfl
theorem laid : laidOutB Try.prog = true := by kernel_rfl
set_option maxRecDepth 100000 in
theorem readable : ∀ t ∈ Try.f13.params.toList, Try.prog.readableRec t = true ∧ t < Try.prog.types.size := of_decide_eq_true (by kernel_rfl)

set_option maxRecDepth 100000 in
theorem contract (H : Type) (enc : TypeId × Value → H) (W : World) (base : Nat) (args : Array Value) (ds gs : List (DataW H)) (before : List MemPlace)
    (hval0 : ∀ (j : Nat) t v, Try.f13.params[j]? = some t → args[j]? = some v → Value.okWide Try.prog W .any base t v)
    (hW : DataW.Whole enc Try.prog Try.f13.params.toList Rows.mboxBackSpec.vars false W args.toList ds gs before) :
    Calls Try.prog 13 args W fun e W' => ∃ v, e = .returned v ∧ Rows.mboxBackSpec.post enc Try.prog Try.f13 false true false false W args v W' := by
  have hval := hval0
  have hW' := hW
  obtain ⟨p, q, hA0, hV, rfl, hfz, hnd⟩ := hW
  obtain ⟨rfl, rfl⟩ := trodVars_none hV
  have hA : DataW.TrodAll enc Try.prog W 0 (fun _ => true) true Try.f13.params.toList args.toList ds p := hA0
  rw [Try.params13] at hA hval
  obtain ⟨v0, vs0, d0, ds0, p0, q0, hargs, rfl, rfl, h0, r_0⟩ := trodAll_cons hA
  obtain ⟨v1, vs1, d1, ds1, p1, q1, rfl, rfl, rfl, h1, r_1⟩ := trodAll_cons r_0
  obtain ⟨rfl, rfl, rfl⟩ := trodAll_nil r_1
  obtain rfl : args = #[v0, v1] := by cases args; simp_all
  clear hA0 hval0
  obtain ⟨a0, r0, w0⟩ := open_param_slice Try.underlying75 Rcd.cRec (by decide) Rcd.recC_len (hval 0 75 _ rfl rfl) h0 Rcd.opens_rec
  obtain ⟨a1, r1, w1⟩ := open_param_slice Try.underlying75 Rcd.cRec (by decide) Rcd.recC_len (hval 1 75 _ rfl rfl) h1 Rcd.opens_rec
  exact (Mbx.mboxBack_walk W v0 a0 v1 a1 r0 w0 r1 w1).mono fun e W' ⟨he, hk⟩ => ⟨_, he, law_post laid Try.underlying4 rfl rfl readable ⟨rfl, rfl, rfl⟩ hW' hk⟩

set_option maxRecDepth 100000 in
theorem lifted (os : Os) (started : os.Started) (H : Type) (enc : TypeId × Value → H) :
    ReturnsInHanded {} Try.checked os 13 .any (Rows.mboxBackSpec.pre6 enc Try.prog Try.f13 Rows.mboxBackRow.domain false) (Rows.mboxBackSpec.post enc Try.prog Try.f13 false true false false) := by
  refine returnsInHanded_of_change (C := Try.checked) own started (by kernel_rfl) Try.func13
    (ChangeSpec.witness6 (enc := enc) (C := Try.checked) false ⟨#[], #[.slice none 0 0, .slice none 0 0], []⟩ 8 (by kernel_rfl) (by kernel_rfl) (by kernel_rfl) (by kernel_rfl)) ?_
  intro W base args ds gs before hval0 hW _ _
  exact contract H enc W base args ds gs before hval0 hW

theorem proved : Rows.MboxBackSaid :=
  OpenClaim.holds_of_wide 13 Try.f13 rfl rfl rfl rfl rfl rfl rfl ⟨rfl, rfl, rfl, rfl, rfl⟩ rfl rfl rfl rfl rfl (by kernel_rfl) Try.func13 (by kernel_rfl)
    (of_decide_eq_true (by kernel_rfl)) (by unfold Func.isWrapper; first | (rw [if_pos (by decide +kernel)]; kernel_rfl) | (rw [if_neg (by decide +kernel)]; exact ⟨rfl, rfl⟩))
    (fun os started H enc _ => lifted os started H enc)
#print axioms proved
end Go.Proofs.Ytohchhgheeolpaa.lawMboxBack
