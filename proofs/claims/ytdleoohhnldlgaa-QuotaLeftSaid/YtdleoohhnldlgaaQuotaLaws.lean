/- Quota's laws, walked. -/
import Derived.Test.YtdleoohhnldlgaaQuotaRef
import Derived.Test.YtdleoohhnldlgaaLawKit
namespace Go.Proofs.Ytdleoohhnldlgaa
open Go.RowKit
namespace Quota

set_option maxHeartbeats 1000000 in
theorem awake_any (w : World) : Calls Try.prog 17 #[] w fun e w' => e = .returned (.bool true) ∧ Keeps w w' := by
  have f1 : fitsB 100 2 60 1 40 = true := by decide
  have f2 : fitsB 100 2 60 1 41 = false := by decide
  have f3 : leftV 100 2 60 1 = 40 := by decide
  have f4 : leftV 100 2 60 2 = -1 := by decide
  have f5 : overB 100 2 101 0 = true := by decide
  have f6 : sumsV [1, 2, 3] = 6 := by decide
  have f7 : sumsB [1, 2, 3] = true := by decide
  go_enter Try.func17, Try.ntmps17
  go_wp2_with fail
  refine (sum_any _ [1, 2, 3] _ ?_).mono ?_
  · exact row_alloc (by simp) rfl rfl (by decide)
  rintro e w1 ⟨rfl, rfl⟩
  go_wp2_with fail
  refine (fits_any _ _ _ _ _ _).mono ?_
  rintro e w1 ⟨rfl, hk1⟩
  have hS : w1.cell? ⟨w.heap.size, 0, none⟩ = some (.int .i64 100) ∧ w1.cell? ⟨w.heap.size, 1, none⟩ = some (.int .i64 2) ∧ w1.cell? ⟨w.heap.size + 1, 0, none⟩ = some (.int .i64 60) ∧ w1.cell? ⟨w.heap.size + 1, 1, none⟩ = some (.int .i64 1) := by
    refine keep4 hk1 ?_
    simp [go_sem]
  have hkA : Keeps w w1 := Keeps.trans (((Keeps.refl w).alloc _).alloc _ |>.alloc _) hk1
  clear hk1
  go_wp2_with fail
  refine (fits_any _ _ _ _ _ _).mono ?_
  rintro e w2 ⟨rfl, hk2⟩
  have hS2 := keep4 hk2 hS
  have hkB := hkA.trans hk2
  clear hkA hk2 hS
  go_wp2_with fail
  refine (left_any _ _ _ _ _ (by decide)).mono ?_
  rintro e w3 ⟨rfl, hk3⟩
  have hS3 := keep4 hk3 hS2
  have hkC := hkB.trans hk3
  clear hkB hk3 hS2
  go_wp2_with fail
  refine (left_any _ _ _ _ _ (by decide)).mono ?_
  rintro e w4 ⟨rfl, hk4⟩
  have hS4 := keep4 hk4 hS3
  have hkD := hkC.trans hk4
  clear hkC hk4 hS3
  go_wp2_with fail
  refine (over_any _ _ _ _ _).mono ?_
  rintro e w5 ⟨rfl, hk5⟩
  go_wp2_with fail
  go_ret
  exact ⟨rfl, hkD.trans hk5⟩

theorem fits_zero_of {lb lc ub uc s : Int} (h : fitsB lb lc ub uc s = true) : fitsB lb lc ub uc 0 = true := by
  simp [fitsB, putB, overB, goodB, boundB, addB, sumB, aboveB, putV, putC] at *
  omega

theorem left_spec {lb lc ub uc : Int} : (leftV lb lc ub uc = -1 ∧ fitsB lb lc ub uc 0 = false) ∨ (0 ≤ leftV lb lc ub uc ∧ leftV lb lc ub uc ≤ 9007199254740992 ∧ fitsB lb lc ub uc (leftV lb lc ub uc) = true ∧ fitsB lb lc ub uc (leftV lb lc ub uc + 1) = false) := by
  cases h : fitsB lb lc ub uc 0
  · left; simp [leftV, h]
  · right
    by_cases hl : lb < 0
    · have e : leftV lb lc ub uc = 9007199254740992 - ub := by simp [leftV, h, hl]
      rw [e]
      simp [fitsB, putB, overB, goodB, boundB, addB, sumB, aboveB, putV, putC] at *
      omega
    · have e : leftV lb lc ub uc = lb - ub := by simp [leftV, h]; omega
      rw [e]
      simp [fitsB, putB, overB, goodB, boundB, addB, sumB, aboveB, putV, putC] at *
      omega

theorem quotaLeft_walk (W : World) (lb lc ub uc : Int) (w0 : (Lit.int .i64 lb).wf = true) (_w1 : (Lit.int .i64 lc).wf = true) (_w2 : (Lit.int .i64 ub).wf = true) (_w3 : (Lit.int .i64 uc).wf = true) :
    Calls Try.prog 6 #[.agg #[.int .i64 lb, .int .i64 lc], .agg #[.int .i64 ub, .int .i64 uc]] W fun e w' => e = .returned (.bool true) ∧ Keeps W w' := by
  have hs := @left_spec lb lc ub uc
  have Hl : ∀ w, Calls Try.prog 24 #[.agg #[.int .i64 lb, .int .i64 lc], .agg #[.int .i64 ub, .int .i64 uc]] w fun e w' => e = .returned (.int .i64 (leftV lb lc ub uc)) ∧ Keeps w w' := fun w => left_any lb lc ub uc w w0
  have HL := Lib.hid Hl
  clear Hl
  generalize leftV lb lc ub uc = n at hs HL
  rcases hs with ⟨h1, h2⟩ | ⟨h1, h2, h3, h4⟩
  · subst h1
    go_enter Try.func6, Try.ntmps6
    go_wp2_with fail
    refine (awake_any _).mono ?_
    rintro e w1 ⟨rfl, hk1⟩
    have hS1 : w1.cell? ⟨W.heap.size, 0, none⟩ = some (.int .i64 lb) ∧ w1.cell? ⟨W.heap.size, 1, none⟩ = some (.int .i64 lc) ∧ w1.cell? ⟨W.heap.size + 1, 0, none⟩ = some (.int .i64 ub) ∧ w1.cell? ⟨W.heap.size + 1, 1, none⟩ = some (.int .i64 uc) := by
      refine keep4 hk1 ?_
      simp [go_sem]
    have hkA : Keeps W w1 := Keeps.trans ((Keeps.refl W).alloc _ |>.alloc _) hk1
    clear hk1
    go_wp2_with fail
    refine (HL.out _).mono ?_
    rintro e w2 ⟨rfl, hk2⟩
    have hS2 := keep4 hk2 hS1
    have hkB := hkA.trans hk2
    clear hkA hk2 hS1
    go_wp2_with fail
    refine (fits_any _ _ _ _ _ _).mono ?_
    rintro e w3 ⟨rfl, hk3⟩
    go_wp2_with fail
    go_ret
    exact ⟨rfl, hkB.trans hk3⟩
  · go_enter Try.func6, Try.ntmps6
    go_wp2_with fail
    refine (awake_any _).mono ?_
    rintro e w1 ⟨rfl, hk1⟩
    have hS1 : w1.cell? ⟨W.heap.size, 0, none⟩ = some (.int .i64 lb) ∧ w1.cell? ⟨W.heap.size, 1, none⟩ = some (.int .i64 lc) ∧ w1.cell? ⟨W.heap.size + 1, 0, none⟩ = some (.int .i64 ub) ∧ w1.cell? ⟨W.heap.size + 1, 1, none⟩ = some (.int .i64 uc) := by
      refine keep4 hk1 ?_
      simp [go_sem]
    have hkA : Keeps W w1 := Keeps.trans ((Keeps.refl W).alloc _ |>.alloc _) hk1
    clear hk1
    go_wp2_with fail
    refine (HL.out _).mono ?_
    rintro e w2 ⟨rfl, hk2⟩
    have hS2 := keep4 hk2 hS1
    have hkB := hkA.trans hk2
    clear hkA hk2 hS1
    go_wp2_with fail
    refine (fits_any _ _ _ _ _ _).mono ?_
    rintro e w3 ⟨rfl, hk3⟩
    have hS3 := keep4 hk3 hS2
    have hkC := hkB.trans hk3
    clear hkB hk3 hS2
    go_wp2_with fail
    refine (fits_any _ _ _ _ _ _).mono ?_
    rintro e w4 ⟨rfl, hk4⟩
    go_wp2_with fail
    go_ret
    exact ⟨rfl, hkC.trans hk4⟩
end Quota
end Go.Proofs.Ytdleoohhnldlgaa
