/- The law QuotaSums, walked. -/
import Derived.Test.YtdleoohhnldlgaaQuotaLaws
import Derived.Test.YtdleoohhnldlgaaOwn
namespace Go.Proofs.Ytdleoohhnldlgaa
open Go.RowKit

namespace Quota

theorem addB_nonneg {a b : Int} (h : addB a b = true) : 0 ≤ a + b := by simp [addB, sumB] at h; omega

set_option maxRecDepth 100000 in
set_option maxHeartbeats 1000000 in
theorem quotaSums_walk (W : World) (v0 : Value) (l : List Int) (a b mb mc : Int) (_w0 : ∀ x ∈ l, (Lit.int .i64 x).wf = true) (r0 : Row W v0 (l.map (.int .i64))) (_w1 : (Lit.int .i64 a).wf = true) (_w2 : (Lit.int .i64 b).wf = true) (_w3 : (Lit.int .i64 mb).wf = true) (_w4 : (Lit.int .i64 mc).wf = true) :
    Calls Try.prog 5 #[v0, .int .i64 a, .int .i64 b, .agg #[.int .i64 mb, .int .i64 mc]] W fun e w' => e = .returned (.bool true) ∧ Keeps W w' := by
  obtain ⟨p, cap, rfl, hlc, hcm⟩ := r0.form
  have HR := Lib.hid r0
  clear r0 _w0
  rw [List.length_map] at hlc HR
  rw [List.length_map]
  unfold maxLen at hcm
  by_cases h300 : 300 < l.length
  · go_enter Try.func5, Try.ntmps5
    go_wp2_with fail
    refine (awake_any _).mono ?_
    rintro e w1 ⟨rfl, hk1⟩
    have hK1 : Keeps W w1 := by
      refine Keeps.trans ?_ hk1
      repeat (first | exact Keeps.refl W | refine Keeps.alloc ?_ _ | refine Keeps.setCell ?_ (by simp; try omega) _ | refine Keeps.drewN ?_ _ | refine Keeps.drew ?_)
    clear hk1
    go_wp2_with fail
    go_ret
    exact ⟨rfl, hK1⟩
  · have hadd : (addB a b = true ∧ addV a b = a + b ∧ rAdd a b = a + b ∧ 0 ≤ a + b) ∨ (addB a b = false ∧ addV a b = 0 ∧ rAdd a b = -1) := by
      cases h : addB a b
      · right; simp [addV, rAdd, h]
      · left; exact ⟨rfl, by simp [addV, h], by simp [rAdd, h], addB_nonneg h⟩
    have hsum : (sumsB l = true ∧ sumsV l = sumN l 0 ∧ rSumV l = sumN l 0 ∧ 0 ≤ sumN l 0) ∨ (sumsB l = false ∧ sumsV l = 0 ∧ rSumV l = -1) := by
      cases h : sumsB l
      · right; simp [sumsV, rSumV, h]
      · left; exact ⟨rfl, by simp [sumsV, h], by simp [rSumV, h], by simpa [sumsB] using h⟩
    rcases hadd with ⟨x1, x2, x3, x4⟩ | ⟨x1, x2, x3⟩
    all_goals rcases hsum with ⟨y1, y2, y3, y4⟩ | ⟨y1, y2, y3⟩
    all_goals
      go_enter Try.func5, Try.ntmps5
      go_wp2_with fail
      refine (awake_any _).mono ?_
      rintro e w1 ⟨rfl, hk1⟩
      have hS1 : w1.cell? ⟨W.heap.size, 0, none⟩ = some (.int .i64 mb) ∧ w1.cell? ⟨W.heap.size, 1, none⟩ = some (.int .i64 mc) := by
        refine keep2 hk1 ?_
        simp [go_sem]
      have hL1 := lts2 hS1
      have hK1 : Keeps W w1 := by
        refine Keeps.trans ?_ hk1
        repeat (first | exact Keeps.refl W | refine Keeps.alloc ?_ _ | refine Keeps.setCell ?_ (by simp; try omega) _ | refine Keeps.drewN ?_ _ | refine Keeps.drew ?_)
      clear hk1
      go_wp2_with (first | (go_at_call 18; refine (add_any _ _ _).mono ?_; rintro e w' ⟨rfl, rfl⟩) | (go_at_call 19; refine (rAdd_any _ _ _).mono ?_; rintro e w' ⟨rfl, rfl⟩) | (go_at_call 20; refine (sum_any _ l _ (HR.out.keeps hK1)).mono ?_; rintro e w' ⟨rfl, rfl⟩) | (go_at_call 21; refine (rAll_any _ l _ (HR.out.keeps hK1)).mono ?_; rintro e w' ⟨rfl, rfl⟩))
      refine wp_region_kept (by kernel_rfl) (by kernel_rfl) ?_
      repeat (go_big_quiet_step ((first | (go_at_call 22; exact Kept.call _ (good_any _ _ _)) | (go_at_call 23; exact Kept.call _ (rGood_any _ _ _)))))
      refine wpQuiet_nil ?_
      intro _ hw'
      obtain ⟨⟨w2, hk2⟩, rfl⟩ := hw'
      have hS2 := keep2 hk2 hS1
      have hL2 := lts2 hS2
      have hK2 := hK1.trans hk2
      clear hk2 hK1 hS1 hL1
      go_wp2_with fail
      go_ret
      exact ⟨rfl, hK2⟩
end Quota
end Go.Proofs.Ytdleoohhnldlgaa
