/- For every input the law TxlogPlays returns true, and each argument reads behind the call as it read before. -/
import Derived.Test.YtchjncnolmiejaaGreatTxlogPlays
import Derived.Test.YtchjncnolmiejaaGreatLawKit
namespace Go.Proofs.YtchjncnolmiejaaGreat.lawTxlogPlays
open Go.ChangeShapes Go.WideShapes Go.ChangeAt Go.RowKit Go.Joins
set_option linter.unusedVariables false

theorem own : ownKnob Tryz.prog.godebug = none := by kernel_rfl
theorem cells5 : Tryz.prog.cellsOf 5 = 1 := by kernel_rfl
theorem laid : laidOutB Tryz.prog = true := by kernel_rfl
set_option maxRecDepth 100000 in
theorem readable : ∀ t ∈ Tryz.f3.params.toList, Tryz.prog.readableRec t = true ∧ t < Tryz.prog.types.size := of_decide_eq_true (by kernel_rfl)

set_option maxRecDepth 100000 in
theorem contract (H : Type) (enc : TypeId × Value → H) (W : World) (base : Nat) (args : Array Value) (ds gs : List (DataW H)) (before : List MemPlace)
  (hval0 : ∀ (j : Nat) t v, Tryz.f3.params[j]? = some t → args[j]? = some v → Value.okWide Tryz.prog W .any base t v)
  (hW : DataW.Whole enc Tryz.prog Tryz.f3.params.toList Rows.txlogPlaysSpec.vars false W args.toList ds gs before) :
  Calls Tryz.prog 3 args W fun e W' => ∃ v, e = .returned v ∧ Rows.txlogPlaysSpec.post enc Tryz.prog Tryz.f3 false true false false W args v W' := by
 have hval := hval0
 have hW' := hW
 obtain ⟨p, q, hA0, hV, rfl, hfz, hnd⟩ := hW
 obtain ⟨rfl, rfl⟩ := trodVars_none hV
 have hA : DataW.TrodAll enc Tryz.prog W 0 (fun _ => true) true Tryz.f3.params.toList args.toList ds p := hA0
 rw [Tryz.params3] at hA hval
 obtain ⟨v0, vs0, d0, ds0, p0, q0, hargs, rfl, rfl, h0, r_0⟩ := trodAll_cons hA
 obtain ⟨v1, vs1, d1, ds1, p1, q1, rfl, rfl, rfl, h1, r_1⟩ := trodAll_cons r_0
 obtain ⟨v2, vs2, d2, ds2, p2, q2, rfl, rfl, rfl, h2, r_2⟩ := trodAll_cons r_1
 obtain ⟨v3, vs3, d3, ds3, p3, q3, rfl, rfl, rfl, h3, r_3⟩ := trodAll_cons r_2
 obtain ⟨rfl, rfl, rfl⟩ := trodAll_nil r_3
 obtain rfl : args = #[v0, v1, v2, v3] := by cases args; simp_all
 clear hA0 hval0
 obtain ⟨a0, r0⟩ := open_row_bytes Tryz.underlying22 Tryz.underlying5 cells5 (hval 0 22 _ rfl rfl) h0
 obtain ⟨a1, rfl, rfl, rfl⟩ := open_bool Tryz.underlying4 (hval 1 4 _ rfl rfl) h1
 obtain ⟨a2, rfl, rfl, rfl, w2⟩ := open_int Tryz.underlying3 (hval 2 3 _ rfl rfl) h2
 obtain ⟨a3, r3, w3⟩ := open_param_slice Tryz.underlying23 Txl.cActT (by decide) Txl.tpC_len (hval 3 23 _ rfl rfl) h3 Txl.opens_actT
 exact (Txl.txlogPlays_walk W v0 a0 a1 a2 v3 a3 r0 w2 r3 w3).mono fun e W' ⟨he, hk⟩ => ⟨_, he, law_post laid Tryz.underlying4 rfl rfl readable ⟨rfl, rfl, rfl⟩ hW' hk⟩

set_option maxRecDepth 100000 in
theorem lifted (os : Os) (started : os.Started) (H : Type) (enc : TypeId × Value → H) :
  ReturnsInHanded {} Tryz.checked os 3 .any (Rows.txlogPlaysSpec.pre6 enc Tryz.prog Tryz.f3 Rows.txlogPlaysRow.domain false) (Rows.txlogPlaysSpec.post enc Tryz.prog Tryz.f3 false true false false) := by
 refine returnsInHanded_of_change (C := Tryz.checked) own started (by kernel_rfl) Tryz.func3
  (ChangeSpec.witness6 (enc := enc) (C := Tryz.checked) false ⟨#[], #[.slice none 0 0, .bool false, .int .i64 0, .slice none 0 0], []⟩ 8 (by kernel_rfl) (by kernel_rfl) (by kernel_rfl) (by kernel_rfl)) ?_
 intro W base args ds gs before hval0 hW _ _
 exact contract H enc W base args ds gs before hval0 hW

theorem proved : Rows.TxlogPlaysSaid :=
 OpenClaim.holds_of_wide 3 Tryz.f3 rfl rfl rfl rfl rfl rfl rfl ⟨rfl, rfl, rfl, rfl, rfl⟩ rfl rfl rfl rfl rfl (by kernel_rfl) Tryz.func3 (by kernel_rfl)
  (of_decide_eq_true (by kernel_rfl)) (by unfold Func.isWrapper; first | (rw [if_pos (by decide +kernel)]; kernel_rfl) | (rw [if_neg (by decide +kernel)]; exact ⟨rfl, rfl⟩))
  (fun os started H enc _ => lifted os started H enc)
#print axioms proved
end Go.Proofs.YtchjncnolmiejaaGreat.lawTxlogPlays
