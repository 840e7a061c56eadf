/- Quota's laws, walked. -/
import Derived.Test.YtdleoohhnldlgaaQuotaRef
import Derived.Test.YtdleoohhnldlgaaLawKit
import Derived.Test.YtdleoohhnldlgaaCells
import Derived.Deep.DeepCutAuto
namespace Go.Proofs.Ytdleoohhnldlgaa
open Go.RowKit
namespace Quota

set_option maxHeartbeats 1000000 in
theorem awake_any (w : World) : Calls Try.prog 17 #[] w fun e w' => e = .returned (.bool true) ∧ Keeps w w' := by
  have f1 : fitsB 100 2 60 1 40 = true := by decide
  have f2 : fitsB 100 2 60 1 41 = false := by decide
  have f3 : leftV 100 2 60 1 = 40 := by decide
  have f4 : leftV 100 2 60 2 = -1 := by decide
  have f5 : overB 100 2 101 0 = true := by decide
  have f6 : sumsV [1, 2, 3] = 6 := by decide
  have f7 : sumsB [1, 2, 3] = true := by decide
  go_enter Try.func17, Try.ntmps17
  go_wp2_with fail
  refine (sum_any _ [1, 2, 3] _ ?_).mono ?_
  · exact row_alloc (by simp) rfl rfl (by decide)
  rintro e w1 ⟨rfl, rfl⟩
  go_wp2_with fail
  refine (fits_any _ _ _ _ _ _).mono ?_
  rintro e w1 ⟨rfl, hk1⟩
  have hS : w1.cell? ⟨w.heap.size, 0, none⟩ = some (.int .i64 100) ∧ w1.cell? ⟨w.heap.size, 1, none⟩ = some (.int .i64 2) ∧ w1.cell? ⟨w.heap.size + 1, 0, none⟩ = some (.int .i64 60) ∧ w1.cell? ⟨w.heap.size + 1, 1, none⟩ = some (.int .i64 1) := by
    refine keep4 hk1 ?_
    simp [go_sem]
  have hkA : Keeps w w1 := Keeps.trans (((Keeps.refl w).alloc _).alloc _ |>.alloc _) hk1
  clear hk1
  go_wp2_with fail
  refine (fits_any _ _ _ _ _ _).mono ?_
  rintro e w2 ⟨rfl, hk2⟩
  have hS2 := keep4 hk2 hS
  have hkB := hkA.trans hk2
  clear hkA hk2 hS
  go_wp2_with fail
  refine (left_any _ _ _ _ _ (by decide)).mono ?_
  rintro e w3 ⟨rfl, hk3⟩
  have hS3 := keep4 hk3 hS2
  have hkC := hkB.trans hk3
  clear hkB hk3 hS2
  go_wp2_with fail
  refine (left_any _ _ _ _ _ (by decide)).mono ?_
  rintro e w4 ⟨rfl, hk4⟩
  have hS4 := keep4 hk4 hS3
  have hkD := hkC.trans hk4
  clear hkC hk4 hS3
  go_wp2_with fail
  refine (over_any _ _ _ _ _).mono ?_
  rintro e w5 ⟨rfl, hk5⟩
  go_wp2_with fail
  go_ret
  exact ⟨rfl, hkD.trans hk5⟩

theorem fits_zero_of {lb lc ub uc s : Int} (h : fitsB lb lc ub uc s = true) : fitsB lb lc ub uc 0 = true := by
  simp [fitsB, putB, overB, goodB, boundB, addB, sumB, aboveB, putV, putC] at *
  omega

theorem left_spec {lb lc ub uc : Int} : (leftV lb lc ub uc = -1 ∧ fitsB lb lc ub uc 0 = false) ∨ (0 ≤ leftV lb lc ub uc ∧ leftV lb lc ub uc ≤ 9007199254740992 ∧ fitsB lb lc ub uc (leftV lb lc ub uc) = true ∧ fitsB lb lc ub uc (leftV lb lc ub uc + 1) = false) := by
  cases h : fitsB lb lc ub uc 0
  · left; simp [leftV, h]
  · right
    by_cases hl : lb < 0
    · have e : leftV lb lc ub uc = 9007199254740992 - ub := by simp [leftV, h, hl]
      rw [e]
      simp [fitsB, putB, overB, goodB, boundB, addB, sumB, aboveB, putV, putC] at *
      omega
    · have e : leftV lb lc ub uc = lb - ub := by simp [leftV, h]; omega
      rw [e]
      simp [fitsB, putB, overB, goodB, boundB, addB, sumB, aboveB, putV, putC] at *
      omega

theorem quotaLeft_walk (W : World) (lb lc ub uc : Int) (w0 : (Lit.int .i64 lb).wf = true) (_w1 : (Lit.int .i64 lc).wf = true) (_w2 : (Lit.int .i64 ub).wf = true) (_w3 : (Lit.int .i64 uc).wf = true) :
    Calls Try.prog 6 #[.agg #[.int .i64 lb, .int .i64 lc], .agg #[.int .i64 ub, .int .i64 uc]] W fun e w' => e = .returned (.bool true) ∧ Keeps W w' := by
  have hs := @left_spec lb lc ub uc
  have Hl : ∀ w, Calls Try.prog 24 #[.agg #[.int .i64 lb, .int .i64 lc], .agg #[.int .i64 ub, .int .i64 uc]] w fun e w' => e = .returned (.int .i64 (leftV lb lc ub uc)) ∧ Keeps w w' := fun w => left_any lb lc ub uc w w0
  have HL := Lib.hid Hl
  clear Hl
  generalize leftV lb lc ub uc = n at hs HL
  rcases hs with ⟨h1, h2⟩ | ⟨h1, h2, h3, h4⟩
  · subst h1
    go_enter Try.func6, Try.ntmps6
    go_wp2_with fail
    refine (awake_any _).mono ?_
    rintro e w1 ⟨rfl, hk1⟩
    have hS1 : w1.cell? ⟨W.heap.size, 0, none⟩ = some (.int .i64 lb) ∧ w1.cell? ⟨W.heap.size, 1, none⟩ = some (.int .i64 lc) ∧ w1.cell? ⟨W.heap.size + 1, 0, none⟩ = some (.int .i64 ub) ∧ w1.cell? ⟨W.heap.size + 1, 1, none⟩ = some (.int .i64 uc) := by
      refine keep4 hk1 ?_
      simp [go_sem]
    have hkA : Keeps W w1 := Keeps.trans ((Keeps.refl W).alloc _ |>.alloc _) hk1
    clear hk1
    go_wp2_with fail
    refine (HL.out _).mono ?_
    rintro e w2 ⟨rfl, hk2⟩
    have hS2 := keep4 hk2 hS1
    have hkB := hkA.trans hk2
    clear hkA hk2 hS1
    go_wp2_with fail
    refine (fits_any _ _ _ _ _ _).mono ?_
    rintro e w3 ⟨rfl, hk3⟩
    go_wp2_with fail
    go_ret
    exact ⟨rfl, hkB.trans hk3⟩
  · go_enter Try.func6, Try.ntmps6
    go_wp2_with fail
    refine (awake_any _).mono ?_
    rintro e w1 ⟨rfl, hk1⟩
    have hS1 : w1.cell? ⟨W.heap.size, 0, none⟩ = some (.int .i64 lb) ∧ w1.cell? ⟨W.heap.size, 1, none⟩ = some (.int .i64 lc) ∧ w1.cell? ⟨W.heap.size + 1, 0, none⟩ = some (.int .i64 ub) ∧ w1.cell? ⟨W.heap.size + 1, 1, none⟩ = some (.int .i64 uc) := by
      refine keep4 hk1 ?_
      simp [go_sem]
    have hkA : Keeps W w1 := Keeps.trans ((Keeps.refl W).alloc _ |>.alloc _) hk1
    clear hk1
    go_wp2_with fail
    refine (HL.out _).mono ?_
    rintro e w2 ⟨rfl, hk2⟩
    have hS2 := keep4 hk2 hS1
    have hkB := hkA.trans hk2
    clear hkA hk2 hS1
    go_wp2_with fail
    refine (fits_any _ _ _ _ _ _).mono ?_
    rintro e w3 ⟨rfl, hk3⟩
    have hS3 := keep4 hk3 hS2
    have hkC := hkB.trans hk3
    clear hkB hk3 hS2
    go_wp2_with fail
    refine (fits_any _ _ _ _ _ _).mono ?_
    rintro e w4 ⟨rfl, hk4⟩
    go_wp2_with fail
    go_ret
    exact ⟨rfl, hkC.trans hk4⟩

theorem more_spec1 {lb lc ub uc s : Int} (h : fitsB lb lc ub uc s = true) : putB ub uc s = true ∧ overB lb lc (putV ub uc s) (putC ub uc s) = false ∧ takeB (putV ub uc s) (putC ub uc s) s = true ∧ takeV (putV ub uc s) (putC ub uc s) s = ub ∧ takeC (putV ub uc s) (putC ub uc s) s = uc := by
  have h1 : putB ub uc s = true := by simp [fitsB] at h; simp [h]
  have h2 : putV ub uc s = ub + s := by simp [putV, h1]
  have h3 : putC ub uc s = uc + 1 := by simp [putC, h1]
  have h4 : takeB (ub + s) (uc + 1) s = true := by
    simp [takeB, putB, addB, sumB] at *; omega
  refine ⟨h1, ?_, by rw [h2, h3, h4], by rw [h2, h3]; simp [takeV, h4], by rw [h2, h3]; simp [takeC, h4]⟩
  simp only [fitsB, Bool.and_eq_true] at h
  simpa using h.2
theorem more_spec2 {lb lc ub uc s t : Int} (h : fitsB lb lc ub uc s = true) (h1 : 0 ≤ t) (h2 : t ≤ s) : fitsB lb lc ub uc t = true := by
  simp [fitsB, putB, overB, goodB, boundB, addB, sumB, aboveB, putV, putC] at *
  omega
theorem more_spec3 {lb lc ub uc s vb vc : Int} (h : fitsB lb lc ub uc s = true) (h1 : 0 ≤ vb) (h2 : vb ≤ ub) (h3 : 0 ≤ vc) (h4 : vc ≤ uc) : fitsB lb lc vb vc s = true := by
  simp [fitsB, putB, overB, goodB, boundB, addB, sumB, aboveB, putV, putC] at *
  omega
theorem more_spec4 {lb lc ub uc s mb mc : Int} (h : fitsB lb lc ub uc s = true) (hg : goodB mb mc = true) (h1 : mb = -1 ∨ lb ≠ -1 ∧ lb ≤ mb) (h2 : mc = -1 ∨ lc ≠ -1 ∧ lc ≤ mc) : fitsB mb mc ub uc s = true := by
  simp [fitsB, putB, overB, goodB, boundB, addB, sumB, aboveB, putV, putC] at *
  omega

theorem quotaFits_walk (W : World) (lb lc ub uc s : Int) (_w0 : (Lit.int .i64 lb).wf = true) (_w1 : (Lit.int .i64 lc).wf = true) (_w2 : (Lit.int .i64 ub).wf = true) (_w3 : (Lit.int .i64 uc).wf = true) (_w4 : (Lit.int .i64 s).wf = true) :
    Calls Try.prog 8 #[.agg #[.int .i64 lb, .int .i64 lc], .agg #[.int .i64 ub, .int .i64 uc], .int .i64 s] W fun e w' => e = .returned (.bool true) ∧ Keeps W w' := by
  go_enter Try.func8, Try.ntmps8
  go_wp2_with fail
  refine (awake_any _).mono ?_
  rintro e w1 ⟨rfl, hk1⟩
  have hS1 : w1.cell? ⟨W.heap.size, 0, none⟩ = some (.int .i64 lb) ∧ w1.cell? ⟨W.heap.size, 1, none⟩ = some (.int .i64 lc) ∧ w1.cell? ⟨W.heap.size + 1, 0, none⟩ = some (.int .i64 ub) ∧ w1.cell? ⟨W.heap.size + 1, 1, none⟩ = some (.int .i64 uc) := by
    refine keep4 hk1 ?_
    simp [go_sem]
  have hL1 := lts4 hS1
  have hK1 : Keeps W w1 := by
    refine Keeps.trans ?_ hk1
    repeat (first | exact Keeps.refl W | refine Keeps.alloc ?_ _ | refine Keeps.setCell ?_ (by simp; try omega) _ | refine Keeps.drewN ?_ _ | refine Keeps.drew ?_)
  clear hk1
  go_wp2_with fail
  refine (put_any _ _ _ _).mono ?_
  rintro e w2 ⟨rfl, hk2⟩
  have hS2 : w2.cell? ⟨W.heap.size, 0, none⟩ = some (.int .i64 lb) ∧ w2.cell? ⟨W.heap.size, 1, none⟩ = some (.int .i64 lc) ∧ w2.cell? ⟨W.heap.size + 1, 0, none⟩ = some (.int .i64 ub) ∧ w2.cell? ⟨W.heap.size + 1, 1, none⟩ = some (.int .i64 uc) := by
    refine keep4 hk2 ?_
    simp [go_sem, hS1, hL1]
  have hL2 := lts4 hS2
  have hK2 : Keeps W w2 := by
    refine Keeps.trans ?_ hk2
    repeat (first | exact hK1 | refine Keeps.alloc ?_ _ | refine Keeps.setCell ?_ (by simp; try omega) _ | refine Keeps.drewN ?_ _ | refine Keeps.drew ?_)
  clear hk2 hK1 hS1 hL1
  go_wp2_with fail
  refine (rPut_any _ _ _ _).mono ?_
  rintro e w3 ⟨rfl, hk3⟩
  have hS3 : w3.cell? ⟨W.heap.size, 0, none⟩ = some (.int .i64 lb) ∧ w3.cell? ⟨W.heap.size, 1, none⟩ = some (.int .i64 lc) ∧ w3.cell? ⟨W.heap.size + 1, 0, none⟩ = some (.int .i64 ub) ∧ w3.cell? ⟨W.heap.size + 1, 1, none⟩ = some (.int .i64 uc) ∧ w3.cell? ⟨w2.heap.size, 0, none⟩ = some (.int .i64 (putV ub uc s)) ∧ w3.cell? ⟨w2.heap.size, 1, none⟩ = some (.int .i64 (putC ub uc s)) := by
    refine keep6 hk3 ?_
    simp [go_sem, hS2, hL2]
  have hL3 := lts6 hS3
  have hK3 : Keeps W w3 := by
    refine Keeps.trans ?_ hk3
    repeat (first | exact hK2 | refine Keeps.alloc ?_ _ | refine Keeps.setCell ?_ (by simp; try omega) _ | refine Keeps.drewN ?_ _ | refine Keeps.drew ?_)
  clear hk3 hK2 hS2 hL2
  go_wp2_with fail
  refine (take_any _ _ _ _).mono ?_
  rintro e w4 ⟨rfl, hk4⟩
  have hS4 : w4.cell? ⟨W.heap.size, 0, none⟩ = some (.int .i64 lb) ∧ w4.cell? ⟨W.heap.size, 1, none⟩ = some (.int .i64 lc) ∧ w4.cell? ⟨W.heap.size + 1, 0, none⟩ = some (.int .i64 ub) ∧ w4.cell? ⟨W.heap.size + 1, 1, none⟩ = some (.int .i64 uc) ∧ w4.cell? ⟨w2.heap.size, 0, none⟩ = some (.int .i64 (putV ub uc s)) ∧ w4.cell? ⟨w2.heap.size, 1, none⟩ = some (.int .i64 (putC ub uc s)) ∧ w4.cell? ⟨w3.heap.size, 0, none⟩ = some (.int .i64 (putV ub uc s)) ∧ w4.cell? ⟨w3.heap.size, 1, none⟩ = some (.int .i64 (putC ub uc s)) ∧ w4.cell? ⟨w3.heap.size, 2, none⟩ = some (.bool (putB ub uc s)) := by
    refine keep9 hk4 ?_
    simp [go_sem, hS3, hL3]
  have hL4 := lts9 hS4
  have hK4 : Keeps W w4 := by
    refine Keeps.trans ?_ hk4
    repeat (first | exact hK3 | refine Keeps.alloc ?_ _ | refine Keeps.setCell ?_ (by simp; try omega) _ | refine Keeps.drewN ?_ _ | refine Keeps.drew ?_)
  clear hk4 hK3 hS3 hL3
  go_wp2_with fail
  refine (rTake_any _ _ _ _).mono ?_
  rintro e w5 ⟨rfl, hk5⟩
  have hS5 : w5.cell? ⟨W.heap.size, 0, none⟩ = some (.int .i64 lb) ∧ w5.cell? ⟨W.heap.size, 1, none⟩ = some (.int .i64 lc) ∧ w5.cell? ⟨W.heap.size + 1, 0, none⟩ = some (.int .i64 ub) ∧ w5.cell? ⟨W.heap.size + 1, 1, none⟩ = some (.int .i64 uc) ∧ w5.cell? ⟨w2.heap.size, 0, none⟩ = some (.int .i64 (putV ub uc s)) ∧ w5.cell? ⟨w2.heap.size, 1, none⟩ = some (.int .i64 (putC ub uc s)) ∧ w5.cell? ⟨w3.heap.size, 0, none⟩ = some (.int .i64 (putV ub uc s)) ∧ w5.cell? ⟨w3.heap.size, 1, none⟩ = some (.int .i64 (putC ub uc s)) ∧ w5.cell? ⟨w3.heap.size, 2, none⟩ = some (.bool (putB ub uc s)) ∧ w5.cell? ⟨w4.heap.size, 0, none⟩ = some (.int .i64 (takeV ub uc s)) ∧ w5.cell? ⟨w4.heap.size, 1, none⟩ = some (.int .i64 (takeC ub uc s)) := by
    refine keep11 hk5 ?_
    simp [go_sem, hS4, hL4]
  have hL5 := lts11 hS5
  have hK5 : Keeps W w5 := by
    refine Keeps.trans ?_ hk5
    repeat (first | exact hK4 | refine Keeps.alloc ?_ _ | refine Keeps.setCell ?_ (by simp; try omega) _ | refine Keeps.drewN ?_ _ | refine Keeps.drew ?_)
  clear hk5 hK4 hS4 hL4
  go_wp2_with fail
  generalize hW6 : World.alloc _ _ = w6
  have hS6 : w6.cell? ⟨W.heap.size, 0, none⟩ = some (.int .i64 lb) ∧ w6.cell? ⟨W.heap.size, 1, none⟩ = some (.int .i64 lc) ∧ w6.cell? ⟨W.heap.size + 1, 0, none⟩ = some (.int .i64 ub) ∧ w6.cell? ⟨W.heap.size + 1, 1, none⟩ = some (.int .i64 uc) ∧ w6.cell? ⟨w2.heap.size, 0, none⟩ = some (.int .i64 (putV ub uc s)) ∧ w6.cell? ⟨w2.heap.size, 1, none⟩ = some (.int .i64 (putC ub uc s)) ∧ w6.cell? ⟨w3.heap.size, 0, none⟩ = some (.int .i64 (putV ub uc s)) ∧ w6.cell? ⟨w3.heap.size, 1, none⟩ = some (.int .i64 (putC ub uc s)) ∧ w6.cell? ⟨w3.heap.size, 2, none⟩ = some (.bool (putB ub uc s)) ∧ w6.cell? ⟨w4.heap.size, 0, none⟩ = some (.int .i64 (takeV ub uc s)) ∧ w6.cell? ⟨w4.heap.size, 1, none⟩ = some (.int .i64 (takeC ub uc s)) ∧ w6.cell? ⟨w5.heap.size, 0, none⟩ = some (.int .i64 (takeV ub uc s)) ∧ w6.cell? ⟨w5.heap.size, 1, none⟩ = some (.int .i64 (takeC ub uc s)) ∧ w6.cell? ⟨w5.heap.size, 2, none⟩ = some (.bool (takeB ub uc s)) := by
    rw [← hW6]
    simp [go_sem, hS5, hL5]
  have hL6 := lts14 hS6
  have hK6 : Keeps W w6 := by
    rw [← hW6]
    repeat (first | exact hK5 | refine Keeps.alloc ?_ _ | refine Keeps.setCell ?_ (by simp; try omega) _ | refine Keeps.drewN ?_ _ | refine Keeps.drew ?_)
  clear hW6 hK5 hS5 hL5
  refine wp_region_kept (by kernel_rfl) (by kernel_rfl) ?_
  repeat (go_big_quiet_step ((first | (go_at_call 25; exact Kept.call _ (fits_any _ _ _ _ _ _)) | (go_at_call 30; exact Kept.call _ (rFits_any _ _ _ _ _ _)) | (go_at_call 31; exact Kept.call _ (over_any _ _ _ _ _)) | (go_at_call 32; exact Kept.call _ (rOver_any _ _ _ _ _)))))
  refine wpQuiet_nil ?_
  intro _ hw'
  obtain ⟨⟨w7, hk7⟩, rfl⟩ := hw'
  have hS7 := keep14 hk7 hS6
  have hL7 := lts14 hS7
  have hK7 := hK6.trans hk7
  clear hk7 hK6 hS6 hL6
  go_wp2_with fail
  go_ret
  exact ⟨rfl, hK7⟩

set_option maxRecDepth 100000 in
set_option maxHeartbeats 2000000 in
theorem quotaMore_walk (W : World) (lb lc mb mc ub uc vb vc s t : Int) (_w0 : (Lit.int .i64 lb).wf = true) (_w1 : (Lit.int .i64 lc).wf = true) (_w2 : (Lit.int .i64 mb).wf = true) (_w3 : (Lit.int .i64 mc).wf = true) (_w4 : (Lit.int .i64 ub).wf = true) (_w5 : (Lit.int .i64 uc).wf = true) (_w6 : (Lit.int .i64 vb).wf = true) (_w7 : (Lit.int .i64 vc).wf = true) (_w8 : (Lit.int .i64 s).wf = true) (_w9 : (Lit.int .i64 t).wf = true) :
    Calls Try.prog 9 #[.agg #[.int .i64 lb, .int .i64 lc], .agg #[.int .i64 mb, .int .i64 mc], .agg #[.int .i64 ub, .int .i64 uc], .agg #[.int .i64 vb, .int .i64 vc], .int .i64 s, .int .i64 t] W fun e w' => e = .returned (.bool true) ∧ Keeps W w' := by
  cases hf : fitsB lb lc ub uc s
  · go_enter Try.func9, Try.ntmps9
    go_wp2_with fail
    refine (awake_any _).mono ?_
    rintro e w1 ⟨rfl, hk1⟩
    have hS1 : w1.cell? ⟨W.heap.size, 0, none⟩ = some (.int .i64 lb) ∧ w1.cell? ⟨W.heap.size, 1, none⟩ = some (.int .i64 lc) ∧ w1.cell? ⟨W.heap.size + 1, 0, none⟩ = some (.int .i64 mb) ∧ w1.cell? ⟨W.heap.size + 1, 1, none⟩ = some (.int .i64 mc) ∧ w1.cell? ⟨W.heap.size + 1 + 1, 0, none⟩ = some (.int .i64 ub) ∧ w1.cell? ⟨W.heap.size + 1 + 1, 1, none⟩ = some (.int .i64 uc) ∧ w1.cell? ⟨W.heap.size + 1 + 1 + 1, 0, none⟩ = some (.int .i64 vb) ∧ w1.cell? ⟨W.heap.size + 1 + 1 + 1, 1, none⟩ = some (.int .i64 vc) := by
      refine keep8 hk1 ?_
      simp [go_sem]
    have hL1 := lts8 hS1
    have hK1 : Keeps W w1 := by
      refine Keeps.trans ?_ hk1
      repeat (first | exact Keeps.refl W | refine Keeps.alloc ?_ _ | refine Keeps.setCell ?_ (by simp; try omega) _ | refine Keeps.drewN ?_ _ | refine Keeps.drew ?_)
    clear hk1
    go_wp2_with fail
    refine (fits_any _ _ _ _ _ _).mono ?_
    rintro e w2 ⟨rfl, hk2⟩
    have hS2 : w2.cell? ⟨W.heap.size, 0, none⟩ = some (.int .i64 lb) ∧ w2.cell? ⟨W.heap.size, 1, none⟩ = some (.int .i64 lc) ∧ w2.cell? ⟨W.heap.size + 1, 0, none⟩ = some (.int .i64 mb) ∧ w2.cell? ⟨W.heap.size + 1, 1, none⟩ = some (.int .i64 mc) ∧ w2.cell? ⟨W.heap.size + 1 + 1, 0, none⟩ = some (.int .i64 ub) ∧ w2.cell? ⟨W.heap.size + 1 + 1, 1, none⟩ = some (.int .i64 uc) ∧ w2.cell? ⟨W.heap.size + 1 + 1 + 1, 0, none⟩ = some (.int .i64 vb) ∧ w2.cell? ⟨W.heap.size + 1 + 1 + 1, 1, none⟩ = some (.int .i64 vc) := by
      refine keep8 hk2 ?_
      simp [go_sem, hS1, hL1]
    have hL2 := lts8 hS2
    have hK2 : Keeps W w2 := by
      refine Keeps.trans ?_ hk2
      repeat (first | exact hK1 | refine Keeps.alloc ?_ _ | refine Keeps.setCell ?_ (by simp; try omega) _ | refine Keeps.drewN ?_ _ | refine Keeps.drew ?_)
    clear hk2 hK1 hS1 hL1
    go_wp2_with fail
    go_ret
    exact ⟨rfl, hK2⟩
  · obtain ⟨e1, e2, e3, e4, e5⟩ := more_spec1 hf
    have H2 := Lib.hid (@more_spec2 lb lc ub uc s t hf)
    have H3 := Lib.hid (@more_spec3 lb lc ub uc s vb vc hf)
    have H4 := Lib.hid (@more_spec4 lb lc ub uc s mb mc hf)
    go_enter Try.func9, Try.ntmps9
    go_wp2_with fail
    refine (awake_any _).mono ?_
    rintro e w1 ⟨rfl, hk1⟩
    have hS1 : w1.cell? ⟨W.heap.size, 0, none⟩ = some (.int .i64 lb) ∧ w1.cell? ⟨W.heap.size, 1, none⟩ = some (.int .i64 lc) ∧ w1.cell? ⟨W.heap.size + 1, 0, none⟩ = some (.int .i64 mb) ∧ w1.cell? ⟨W.heap.size + 1, 1, none⟩ = some (.int .i64 mc) ∧ w1.cell? ⟨W.heap.size + 1 + 1, 0, none⟩ = some (.int .i64 ub) ∧ w1.cell? ⟨W.heap.size + 1 + 1, 1, none⟩ = some (.int .i64 uc) ∧ w1.cell? ⟨W.heap.size + 1 + 1 + 1, 0, none⟩ = some (.int .i64 vb) ∧ w1.cell? ⟨W.heap.size + 1 + 1 + 1, 1, none⟩ = some (.int .i64 vc) := by
      refine keep8 hk1 ?_
      simp [go_sem]
    have hL1 := lts8 hS1
    have hK1 : Keeps W w1 := by
      refine Keeps.trans ?_ hk1
      repeat (first | exact Keeps.refl W | refine Keeps.alloc ?_ _ | refine Keeps.setCell ?_ (by simp; try omega) _ | refine Keeps.drewN ?_ _ | refine Keeps.drew ?_)
    clear hk1
    go_wp2_with fail
    refine (fits_any _ _ _ _ _ _).mono ?_
    rintro e w2 ⟨rfl, hk2⟩
    have hS2 : w2.cell? ⟨W.heap.size, 0, none⟩ = some (.int .i64 lb) ∧ w2.cell? ⟨W.heap.size, 1, none⟩ = some (.int .i64 lc) ∧ w2.cell? ⟨W.heap.size + 1, 0, none⟩ = some (.int .i64 mb) ∧ w2.cell? ⟨W.heap.size + 1, 1, none⟩ = some (.int .i64 mc) ∧ w2.cell? ⟨W.heap.size + 1 + 1, 0, none⟩ = some (.int .i64 ub) ∧ w2.cell? ⟨W.heap.size + 1 + 1, 1, none⟩ = some (.int .i64 uc) ∧ w2.cell? ⟨W.heap.size + 1 + 1 + 1, 0, none⟩ = some (.int .i64 vb) ∧ w2.cell? ⟨W.heap.size + 1 + 1 + 1, 1, none⟩ = some (.int .i64 vc) := by
      refine keep8 hk2 ?_
      simp [go_sem, hS1, hL1]
    have hL2 := lts8 hS2
    have hK2 : Keeps W w2 := by
      refine Keeps.trans ?_ hk2
      repeat (first | exact hK1 | refine Keeps.alloc ?_ _ | refine Keeps.setCell ?_ (by simp; try omega) _ | refine Keeps.drewN ?_ _ | refine Keeps.drew ?_)
    clear hk2 hK1 hS1 hL1
    go_wp2_with fail
    refine (put_any _ _ _ _).mono ?_
    rintro e w3 ⟨rfl, hk3⟩
    have hS3 : w3.cell? ⟨W.heap.size, 0, none⟩ = some (.int .i64 lb) ∧ w3.cell? ⟨W.heap.size, 1, none⟩ = some (.int .i64 lc) ∧ w3.cell? ⟨W.heap.size + 1, 0, none⟩ = some (.int .i64 mb) ∧ w3.cell? ⟨W.heap.size + 1, 1, none⟩ = some (.int .i64 mc) ∧ w3.cell? ⟨W.heap.size + 1 + 1, 0, none⟩ = some (.int .i64 ub) ∧ w3.cell? ⟨W.heap.size + 1 + 1, 1, none⟩ = some (.int .i64 uc) ∧ w3.cell? ⟨W.heap.size + 1 + 1 + 1, 0, none⟩ = some (.int .i64 vb) ∧ w3.cell? ⟨W.heap.size + 1 + 1 + 1, 1, none⟩ = some (.int .i64 vc) := by
      refine keep8 hk3 ?_
      simp [go_sem, hS2, hL2]
    have hL3 := lts8 hS3
    have hK3 : Keeps W w3 := by
      refine Keeps.trans ?_ hk3
      repeat (first | exact hK2 | refine Keeps.alloc ?_ _ | refine Keeps.setCell ?_ (by simp; try omega) _ | refine Keeps.drewN ?_ _ | refine Keeps.drew ?_)
    clear hk3 hK2 hS2 hL2
    go_wp2_with fail
    refine (take_any _ _ _ _).mono ?_
    rintro e w4 ⟨rfl, hk4⟩
    have hS4 : w4.cell? ⟨W.heap.size, 0, none⟩ = some (.int .i64 lb) ∧ w4.cell? ⟨W.heap.size, 1, none⟩ = some (.int .i64 lc) ∧ w4.cell? ⟨W.heap.size + 1, 0, none⟩ = some (.int .i64 mb) ∧ w4.cell? ⟨W.heap.size + 1, 1, none⟩ = some (.int .i64 mc) ∧ w4.cell? ⟨W.heap.size + 1 + 1, 0, none⟩ = some (.int .i64 ub) ∧ w4.cell? ⟨W.heap.size + 1 + 1, 1, none⟩ = some (.int .i64 uc) ∧ w4.cell? ⟨W.heap.size + 1 + 1 + 1, 0, none⟩ = some (.int .i64 vb) ∧ w4.cell? ⟨W.heap.size + 1 + 1 + 1, 1, none⟩ = some (.int .i64 vc) ∧ w4.cell? ⟨w3.heap.size, 0, none⟩ = some (.int .i64 (putV ub uc s)) ∧ w4.cell? ⟨w3.heap.size, 1, none⟩ = some (.int .i64 (putC ub uc s)) := by
      refine keep10 hk4 ?_
      simp [go_sem, hS3, hL3]
    have hL4 := lts10 hS4
    have hK4 : Keeps W w4 := by
      refine Keeps.trans ?_ hk4
      repeat (first | exact hK3 | refine Keeps.alloc ?_ _ | refine Keeps.setCell ?_ (by simp; try omega) _ | refine Keeps.drewN ?_ _ | refine Keeps.drew ?_)
    clear hk4 hK3 hS3 hL3
    go_wp2_with fail
    refine (over_any _ _ _ _ _).mono ?_
    rintro e w5 ⟨rfl, hk5⟩
    have hS5 : w5.cell? ⟨W.heap.size, 0, none⟩ = some (.int .i64 lb) ∧ w5.cell? ⟨W.heap.size, 1, none⟩ = some (.int .i64 lc) ∧ w5.cell? ⟨W.heap.size + 1, 0, none⟩ = some (.int .i64 mb) ∧ w5.cell? ⟨W.heap.size + 1, 1, none⟩ = some (.int .i64 mc) ∧ w5.cell? ⟨W.heap.size + 1 + 1, 0, none⟩ = some (.int .i64 ub) ∧ w5.cell? ⟨W.heap.size + 1 + 1, 1, none⟩ = some (.int .i64 uc) ∧ w5.cell? ⟨W.heap.size + 1 + 1 + 1, 0, none⟩ = some (.int .i64 vb) ∧ w5.cell? ⟨W.heap.size + 1 + 1 + 1, 1, none⟩ = some (.int .i64 vc) ∧ w5.cell? ⟨w3.heap.size, 0, none⟩ = some (.int .i64 (putV ub uc s)) ∧ w5.cell? ⟨w3.heap.size, 1, none⟩ = some (.int .i64 (putC ub uc s)) ∧ w5.cell? ⟨w4.heap.size, 0, none⟩ = some (.int .i64 ub) ∧ w5.cell? ⟨w4.heap.size, 1, none⟩ = some (.int .i64 uc) := by
      refine keep12 hk5 ?_
      simp [go_sem, hS4, hL4]
    have hL5 := lts12 hS5
    have hK5 : Keeps W w5 := by
      refine Keeps.trans ?_ hk5
      repeat (first | exact hK4 | refine Keeps.alloc ?_ _ | refine Keeps.setCell ?_ (by simp; try omega) _ | refine Keeps.drewN ?_ _ | refine Keeps.drew ?_)
    clear hk5 hK4 hS4 hL4
    go_upto_region 9 with fail
    go_cut [66] (fun x wx => x = .bool false ∧ (wx.cell? ⟨W.heap.size, 0, none⟩ = some (.int .i64 lb) ∧ wx.cell? ⟨W.heap.size, 1, none⟩ = some (.int .i64 lc) ∧ wx.cell? ⟨W.heap.size + 1, 0, none⟩ = some (.int .i64 mb) ∧ wx.cell? ⟨W.heap.size + 1, 1, none⟩ = some (.int .i64 mc) ∧ wx.cell? ⟨W.heap.size + 1 + 1, 0, none⟩ = some (.int .i64 ub) ∧ wx.cell? ⟨W.heap.size + 1 + 1, 1, none⟩ = some (.int .i64 uc) ∧ wx.cell? ⟨W.heap.size + 1 + 1 + 1, 0, none⟩ = some (.int .i64 vb) ∧ wx.cell? ⟨W.heap.size + 1 + 1 + 1, 1, none⟩ = some (.int .i64 vc) ∧ wx.cell? ⟨w3.heap.size, 0, none⟩ = some (.int .i64 (putV ub uc s)) ∧ wx.cell? ⟨w3.heap.size, 1, none⟩ = some (.int .i64 (putC ub uc s)) ∧ wx.cell? ⟨w4.heap.size, 0, none⟩ = some (.int .i64 ub) ∧ wx.cell? ⟨w4.heap.size, 1, none⟩ = some (.int .i64 uc)) ∧ Keeps W wx)
    case first =>
      by_cases h1 : 0 ≤ t <;> by_cases h2 : t ≤ s
      all_goals
        try have h3 := H2.out h1 h2
        go_wp2_with (go_at_call 25; refine (fits_any _ _ _ _ _ _).mono ?_; rintro e w6 ⟨rfl, hk6⟩)
        go_meet
        refine ⟨rfl, ?_, ?_⟩
        · first | exact keep12 hk6 hS5 | exact hS5
        · first | exact hK5.trans hk6 | exact hK5
    case rest =>
    obtain ⟨rfl, hS6, hK6⟩ := hcut
    clear hS5 hL5 hK5
    have hL6 := lts12 hS6
    go_upto_region 11 with fail
    go_cut [95] (fun x wx => x = .bool false ∧ (wx.cell? ⟨W.heap.size, 0, none⟩ = some (.int .i64 lb) ∧ wx.cell? ⟨W.heap.size, 1, none⟩ = some (.int .i64 lc) ∧ wx.cell? ⟨W.heap.size + 1, 0, none⟩ = some (.int .i64 mb) ∧ wx.cell? ⟨W.heap.size + 1, 1, none⟩ = some (.int .i64 mc) ∧ wx.cell? ⟨W.heap.size + 1 + 1, 0, none⟩ = some (.int .i64 ub) ∧ wx.cell? ⟨W.heap.size + 1 + 1, 1, none⟩ = some (.int .i64 uc) ∧ wx.cell? ⟨W.heap.size + 1 + 1 + 1, 0, none⟩ = some (.int .i64 vb) ∧ wx.cell? ⟨W.heap.size + 1 + 1 + 1, 1, none⟩ = some (.int .i64 vc) ∧ wx.cell? ⟨w3.heap.size, 0, none⟩ = some (.int .i64 (putV ub uc s)) ∧ wx.cell? ⟨w3.heap.size, 1, none⟩ = some (.int .i64 (putC ub uc s)) ∧ wx.cell? ⟨w4.heap.size, 0, none⟩ = some (.int .i64 ub) ∧ wx.cell? ⟨w4.heap.size, 1, none⟩ = some (.int .i64 uc)) ∧ Keeps W wx)
    case first =>
      by_cases h1 : 0 ≤ vb <;> by_cases h2 : vb ≤ ub <;> by_cases h3 : 0 ≤ vc <;> by_cases h4 : vc ≤ uc
      all_goals
        try have h5 := H3.out h1 h2 h3 h4
        go_wp2_with (go_at_call 25; refine (fits_any _ _ _ _ _ _).mono ?_; rintro e w7 ⟨rfl, hk7⟩)
        go_meet
        refine ⟨rfl, ?_, ?_⟩
        · first | exact keep12 hk7 hS6 | exact hS6
        · first | exact hK6.trans hk7 | exact hK6
    case rest =>
    obtain ⟨rfl, hS7, hK7⟩ := hcut
    clear hS6 hL6 hK6
    have hL7 := lts12 hS7
    go_upto_region 13 with fail
    go_cut [17] (fun x wx => (∃ b : Bool, x = .bool b ∧ (b = true → fitsB mb mc ub uc s = true)) ∧ (wx.cell? ⟨W.heap.size, 0, none⟩ = some (.int .i64 lb) ∧ wx.cell? ⟨W.heap.size, 1, none⟩ = some (.int .i64 lc) ∧ wx.cell? ⟨W.heap.size + 1, 0, none⟩ = some (.int .i64 mb) ∧ wx.cell? ⟨W.heap.size + 1, 1, none⟩ = some (.int .i64 mc) ∧ wx.cell? ⟨W.heap.size + 1 + 1, 0, none⟩ = some (.int .i64 ub) ∧ wx.cell? ⟨W.heap.size + 1 + 1, 1, none⟩ = some (.int .i64 uc) ∧ wx.cell? ⟨W.heap.size + 1 + 1 + 1, 0, none⟩ = some (.int .i64 vb) ∧ wx.cell? ⟨W.heap.size + 1 + 1 + 1, 1, none⟩ = some (.int .i64 vc) ∧ wx.cell? ⟨w3.heap.size, 0, none⟩ = some (.int .i64 (putV ub uc s)) ∧ wx.cell? ⟨w3.heap.size, 1, none⟩ = some (.int .i64 (putC ub uc s)) ∧ wx.cell? ⟨w4.heap.size, 0, none⟩ = some (.int .i64 ub) ∧ wx.cell? ⟨w4.heap.size, 1, none⟩ = some (.int .i64 uc)) ∧ Keeps W wx)
    case first =>
      cases hg : goodB mb mc
      · go_wp2_with (go_at_call 22; refine (good_any _ _ _).mono ?_; rintro e w8 ⟨rfl, hk8⟩; have hS8 := keep12 hk8 hS7; have hL8 := lts12 hS8)
        go_meet
        exact ⟨⟨false, rfl, by simp⟩, hS8, hK7.trans hk8⟩
      · go_wp2_with fail
        refine (good_any _ _ _).mono ?_
        rintro e w8 ⟨rfl, hk8⟩
        have hS8 := keep12 hk8 hS7
        have hL8 := lts12 hS8
        have hK8 := hK7.trans hk8
        clear hS7 hL7 hK7 hk8
        have H4' := Lib.hid (H4.out hg)
        cases h1 : (mb == -1)
        · cases h2 : (lb != -1)
          · go_wp2_with fail
            go_meet
            exact ⟨⟨_, rfl, fun hb => absurd hb (by simp; try omega)⟩, hS8, hK8⟩
          · by_cases h3 : lb ≤ mb
            · skip
              cases h4 : (mc == -1)
              · cases h5 : (lc != -1)
                · go_wp2_with fail
                  go_meet
                  exact ⟨⟨_, rfl, fun hb => absurd hb (by simp; try omega)⟩, hS8, hK8⟩
                · by_cases h6 : lc ≤ mc
                  · go_wp2_with fail
                    go_meet
                    exact ⟨⟨_, rfl, fun _ => H4'.out (Or.inr ⟨by simpa using h2, h3⟩) (Or.inr ⟨by simpa using h5, h6⟩)⟩, hS8, hK8⟩
                  · go_wp2_with fail
                    go_meet
                    exact ⟨⟨_, rfl, fun hb => absurd hb (by simp; try omega)⟩, hS8, hK8⟩
              · go_wp2_with fail
                go_meet
                exact ⟨⟨_, rfl, fun _ => H4'.out (Or.inr ⟨by simpa using h2, h3⟩) (Or.inl (by simpa using h4))⟩, hS8, hK8⟩
            · go_wp2_with fail
              go_meet
              exact ⟨⟨_, rfl, fun hb => absurd hb (by simp; try omega)⟩, hS8, hK8⟩
        · skip
          cases h4 : (mc == -1)
          · cases h5 : (lc != -1)
            · go_wp2_with fail
              go_meet
              exact ⟨⟨_, rfl, fun hb => absurd hb (by simp; try omega)⟩, hS8, hK8⟩
            · by_cases h6 : lc ≤ mc
              · go_wp2_with fail
                go_meet
                exact ⟨⟨_, rfl, fun _ => H4'.out (Or.inl (by simpa using h1)) (Or.inr ⟨by simpa using h5, h6⟩)⟩, hS8, hK8⟩
              · go_wp2_with fail
                go_meet
                exact ⟨⟨_, rfl, fun hb => absurd hb (by simp; try omega)⟩, hS8, hK8⟩
          · go_wp2_with fail
            go_meet
            exact ⟨⟨_, rfl, fun _ => H4'.out (Or.inl (by simpa using h1)) (Or.inl (by simpa using h4))⟩, hS8, hK8⟩
    case rest =>
    obtain ⟨⟨b, rfl, hb⟩, hS8, hK8⟩ := hcut
    clear hS7 hL7 hK7
    have hL8 := lts12 hS8
    have HB := Lib.hid hb
    clear hb
    cases b
    · go_wp2_with fail
      go_ret
      exact ⟨rfl, hK8⟩
    · have hb := HB.out rfl
      go_wp2_with fail
      refine (fits_any _ _ _ _ _ _).mono ?_
      rintro e w9 ⟨rfl, hk9⟩
      go_wp2_with fail
      go_ret
      exact ⟨rfl, hK8.trans hk9⟩
end Quota
end Go.Proofs.Ytdleoohhnldlgaa
