/- The functions of the reference for quota compute what the plain functions say. -/
import Derived.Test.YtdleoohhnldlgaaQuota
namespace Go.Proofs.Ytdleoohhnldlgaa
open Go.RowKit
namespace Quota

/-! ### The reference -/
def rAdd (a b : Int) : Int := if addB a b then a + b else -1
def rPutOk (b c s : Int) : Bool := putB b c s

theorem rSum_any (a : Int) (w : World) :
    Calls Try.prog 37 #[.int .i64 a] w fun e w' => e = .returned (.bool (sumB a)) ∧ w = w' := by
  go_enter Try.func37, Try.ntmps37
  go_wp2
  all_goals go_ret
  all_goals (refine ⟨?_, rfl⟩; simp [sumB, *])
  all_goals omega

theorem rAdd_any (a b : Int) (w : World) :
    Calls Try.prog 19 #[.int .i64 a, .int .i64 b] w fun e w' => e = .returned (.int .i64 (rAdd a b)) ∧ w = w' := by
  cases ha : sumB a
  · go_enter Try.func19, Try.ntmps19
    go_wp2_with (go_at_call 37; refine (rSum_any _ _).mono ?_; rintro e w' ⟨rfl, rfl⟩)
    go_ret
    exact ⟨by simp [rAdd, addB, ha], rfl⟩
  · cases hb : sumB b
    · go_enter Try.func19, Try.ntmps19
      go_wp2_with (go_at_call 37; refine (rSum_any _ _).mono ?_; rintro e w' ⟨rfl, rfl⟩)
      go_ret
      exact ⟨by simp [rAdd, addB, ha, hb], rfl⟩
    · have h1 : 0 ≤ a ∧ a ≤ 9007199254740992 := by simpa [sumB] using ha
      have h2 : 0 ≤ b ∧ b ≤ 9007199254740992 := by simpa [sumB] using hb
      cases hs : sumB (a + b)
      all_goals
        go_enter Try.func19, Try.ntmps19
        go_wp2_with (go_at_call 37; refine (rSum_any _ _).mono ?_; rintro e w' ⟨rfl, rfl⟩)
        go_ret
        refine ⟨?_, rfl⟩
        simp [sumB] at hs
        simp [rAdd, addB, ha, hb]
        try omega

theorem rGood_any (b c : Int) (w : World) :
    Calls Try.prog 23 #[.agg #[.int .i64 b, .int .i64 c]] w fun e w' => e = .returned (.bool (goodB b c)) ∧ Keeps w w' := by
  cases hb : (b == -1) <;> cases hc : (c == -1) <;> cases hsb : sumB b
  all_goals
    go_enter Try.func23, Try.ntmps23
    go_wp2_with (go_at_call 37; refine (rSum_any _ _).mono ?_; rintro e w' ⟨rfl, rfl⟩)
    go_ret
    exact ⟨by simp [goodB, boundB, hb, hc, hsb], (Keeps.refl _).alloc _⟩

set_option maxHeartbeats 1000000 in
theorem rPut_any (b c s : Int) (w : World) :
    Calls Try.prog 27 #[.agg #[.int .i64 b, .int .i64 c], .int .i64 s] w fun e w' => e = .returned (.agg #[.int .i64 (putV b c s), .int .i64 (putC b c s), .bool (putB b c s)]) ∧ Keeps w w' := by
  have hx : ∀ x y, addB x y = true → rAdd x y = x + y := fun x y h => by simp [rAdd, h]
  have hy : ∀ x y, addB x y = false → rAdd x y = -1 := fun x y h => by simp [rAdd, h]
  have hz : ∀ x y, addB x y = true → 0 ≤ x + y := fun x y h => by simp [addB, sumB] at h; omega
  cases hb : addB b s <;> cases hc : addB c 1
  all_goals
    first | (have h1 := hx _ _ hb; have h1' := hz _ _ hb) | have h1 := hy _ _ hb
    first | (have h2 := hx _ _ hc; have h2' := hz _ _ hc) | have h2 := hy _ _ hc
    clear hx hy hz
    go_enter Try.func27, Try.ntmps27
    go_wp2_with fail
    go_quiet ((go_at_call 19; exact Calls.quiet_of_same ((rAdd_any _ _ _).mono fun _ _ h => ⟨h.1, h.2.symm⟩)))
    go_wp2_with fail
    refine bodyPost_ret (by simp [results, Try.results27, go_sem]; rfl) rfl ⟨?_, by repeat (first | exact Keeps.refl _ | refine Keeps.alloc ?_ _ | refine Keeps.setCell ?_ (by simp; try omega) _ | refine Keeps.drewN ?_ _ | refine Keeps.trans ?_ hk1 | refine Keeps.trans ?_ hk2 | refine Keeps.trans ?_ hk3)⟩
    simp [putV, putC, putB, hb, hc]

set_option maxHeartbeats 1000000 in
theorem rTake_any (b c s : Int) (w : World) :
    Calls Try.prog 29 #[.agg #[.int .i64 b, .int .i64 c], .int .i64 s] w fun e w' => e = .returned (.agg #[.int .i64 (takeV b c s), .int .i64 (takeC b c s), .bool (takeB b c s)]) ∧ Keeps w w' := by
  cases hb : sumB b
  · go_enter Try.func29, Try.ntmps29
    go_wp2_with (go_at_call 37; refine (rSum_any _ _).mono ?_; rintro e w' ⟨rfl, rfl⟩)
    refine bodyPost_ret (by simp [results, Try.results29, go_sem]; rfl) rfl ⟨?_, by repeat (first | exact Keeps.refl _ | refine Keeps.alloc ?_ _ | refine Keeps.setCell ?_ (by simp; try omega) _ | refine Keeps.drewN ?_ _ | refine Keeps.trans ?_ hk1 | refine Keeps.trans ?_ hk2 | refine Keeps.trans ?_ hk3)⟩
    simp [takeB, takeV, takeC, hb]
  · cases hc : sumB c
    · go_enter Try.func29, Try.ntmps29
      go_wp2_with (go_at_call 37; refine (rSum_any _ _).mono ?_; rintro e w' ⟨rfl, rfl⟩)
      refine bodyPost_ret (by simp [results, Try.results29, go_sem]; rfl) rfl ⟨?_, by repeat (first | exact Keeps.refl _ | refine Keeps.alloc ?_ _ | refine Keeps.setCell ?_ (by simp; try omega) _ | refine Keeps.drewN ?_ _ | refine Keeps.trans ?_ hk1 | refine Keeps.trans ?_ hk2 | refine Keeps.trans ?_ hk3)⟩
      simp [takeB, takeV, takeC, hb, hc]
    · cases hs : sumB s
      · go_enter Try.func29, Try.ntmps29
        go_wp2_with (go_at_call 37; refine (rSum_any _ _).mono ?_; rintro e w' ⟨rfl, rfl⟩)
        refine bodyPost_ret (by simp [results, Try.results29, go_sem]; rfl) rfl ⟨?_, by repeat (first | exact Keeps.refl _ | refine Keeps.alloc ?_ _ | refine Keeps.setCell ?_ (by simp; try omega) _ | refine Keeps.drewN ?_ _ | refine Keeps.trans ?_ hk1 | refine Keeps.trans ?_ hk2 | refine Keeps.trans ?_ hk3)⟩
        simp [takeB, takeV, takeC, hb, hc, hs]
      · have h1 : 0 ≤ b ∧ b ≤ 9007199254740992 := by simpa [sumB] using hb
        have h2 : 0 ≤ c ∧ c ≤ 9007199254740992 := by simpa [sumB] using hc
        have h3 : 0 ≤ s ∧ s ≤ 9007199254740992 := by simpa [sumB] using hs
        by_cases hsb : b < s
        · go_enter Try.func29, Try.ntmps29
          go_wp2_with (go_at_call 37; refine (rSum_any _ _).mono ?_; rintro e w' ⟨rfl, rfl⟩)
          refine bodyPost_ret (by simp [results, Try.results29, go_sem]; rfl) rfl ⟨?_, by repeat (first | exact Keeps.refl _ | refine Keeps.alloc ?_ _ | refine Keeps.setCell ?_ (by simp; try omega) _ | refine Keeps.drewN ?_ _ | refine Keeps.trans ?_ hk1 | refine Keeps.trans ?_ hk2 | refine Keeps.trans ?_ hk3)⟩
          have : ¬ s ≤ b := by omega
          simp [takeB, takeV, takeC, hb, hc, hs, this]
        · have hsb' : s ≤ b := by omega
          by_cases h0 : c < 1
          all_goals
            go_enter Try.func29, Try.ntmps29
            go_wp2_with (go_at_call 37; refine (rSum_any _ _).mono ?_; rintro e w' ⟨rfl, rfl⟩)
            refine bodyPost_ret (by simp [results, Try.results29, go_sem]; rfl) rfl ⟨?_, by repeat (first | exact Keeps.refl _ | refine Keeps.alloc ?_ _ | refine Keeps.setCell ?_ (by simp; try omega) _ | refine Keeps.drewN ?_ _ | refine Keeps.trans ?_ hk1 | refine Keeps.trans ?_ hk2 | refine Keeps.trans ?_ hk3)⟩
            first | (have h00 : c = 0 := by omega) | have h00 : ¬ c = 0 := by omega
            simp [takeB, takeV, takeC, hb, hc, hs, hsb', h00]

set_option maxHeartbeats 1000000 in
theorem rOver_any (lb lc ub uc : Int) (w : World) :
    Calls Try.prog 32 #[.agg #[.int .i64 lb, .int .i64 lc], .agg #[.int .i64 ub, .int .i64 uc]] w fun e w' => e = .returned (.bool (overB lb lc ub uc)) ∧ Keeps w w' := by
  cases hg : goodB lb lc
  · go_enter Try.func32, Try.ntmps32
    go_wp2_with (go_at_call 23; refine (rGood_any _ _ _).mono ?_; rintro e w1 ⟨rfl, hk1⟩; obtain ⟨hc, hf⟩ := kcell hk1; have hz : w.heap.size < w1.heap.size ∧ w.heap.size + 1 < w1.heap.size := by have := hk1.size; simp at this; omega)
    go_ret
    exact ⟨by simp [overB, hg], by repeat (first | exact Keeps.refl _ | refine Keeps.alloc ?_ _ | refine Keeps.setCell ?_ (by simp; try omega) _ | refine Keeps.drewN ?_ _ | refine Keeps.trans ?_ hk1 | refine Keeps.trans ?_ hk2 | refine Keeps.trans ?_ hk3)⟩
  · have hb1 : -1 ≤ lb ∧ -1 ≤ lc := by simp [goodB, boundB, sumB] at hg; omega
    cases h1 : (lb != -1) <;> cases h2 : (lc != -1) <;> by_cases h3 : lb < ub
    all_goals
      go_enter Try.func32, Try.ntmps32
      go_wp2_with (go_at_call 23; refine (rGood_any _ _ _).mono ?_; rintro e w1 ⟨rfl, hk1⟩; obtain ⟨hc, hf⟩ := kcell hk1; have hz : w.heap.size < w1.heap.size ∧ w.heap.size + 1 < w1.heap.size := by have := hk1.size; simp at this; omega)
      go_ret
      refine ⟨?_, by repeat (first | exact Keeps.refl _ | refine Keeps.alloc ?_ _ | refine Keeps.setCell ?_ (by simp; try omega) _ | refine Keeps.drewN ?_ _ | refine Keeps.trans ?_ hk1 | refine Keeps.trans ?_ hk2 | refine Keeps.trans ?_ hk3)⟩
      simp at h1 h2
      clear hc hf
      simp only [overB, hg, aboveB]
      clear hg hk1
      first | (simp [h1, h2]; done) | (simp [h1, h2]; omega) | (simp [h1, h2]; rw [Bool.eq_iff_iff]; simp; omega)

theorem rFits_any (lb lc ub uc s : Int) (w : World) :
    Calls Try.prog 30 #[.agg #[.int .i64 lb, .int .i64 lc], .agg #[.int .i64 ub, .int .i64 uc], .int .i64 s] w fun e w' => e = .returned (.bool (fitsB lb lc ub uc s)) ∧ Keeps w w' := by
  cases hp : putB ub uc s <;> cases hg : goodB lb lc
  all_goals
    go_enter Try.func30, Try.ntmps30
    go_wp2_with fail
    refine (rPut_any _ _ _ _).mono ?_
    rintro e w1 ⟨rfl, hk1⟩
    obtain ⟨hc, hf⟩ := kcell hk1
    have hz : w.heap.size < w1.heap.size ∧ w.heap.size + 1 < w1.heap.size := by have := hk1.size; simp at this; omega
    obtain ⟨hz0, hz⟩ := hz
    go_wp2_with (first | (go_at_call 23; refine (rGood_any _ _ _).mono ?_; rintro e w2 ⟨rfl, hk2⟩; obtain ⟨hc2, hf2⟩ := kcell hk2; have hz2 : w1.heap.size < w2.heap.size := by have := hk2.size; simp at this; omega) | (go_at_call 32; refine (rOver_any _ _ _ _ _).mono ?_; rintro e w3 ⟨rfl, hk3⟩))
    go_ret
    exact ⟨by simp [fitsB, hp, hg], by repeat (first | exact Keeps.refl _ | refine Keeps.alloc ?_ _ | refine Keeps.setCell ?_ (by simp; try omega) _ | refine Keeps.drewN ?_ _ | refine Keeps.trans ?_ hk1 | refine Keeps.trans ?_ hk2 | refine Keeps.trans ?_ hk3)⟩

def rSumV (l : List Int) : Int := if sumsB l then sumN l 0 else -1
theorem rAll_any (v : Value) (l : List Int) (w : World) (h : Row w v (l.map (.int .i64))) :
    Calls Try.prog 21 #[v] w fun e w' => e = .returned (.int .i64 (rSumV l)) ∧ w = w' := by
  rcases h with ⟨a0, cap, rfl, hl, -, -⟩ | ⟨b, off, cap, rfl, hle, hcap, hcell⟩
  · obtain rfl : l = [] := by simpa using hl
    have e1 : rSumV [] = 0 := rfl
    rw [e1]
    go_enter Try.func21, Try.ntmps21
    go_wp2
    go_loop [3, 4] (fun n i => n = .int .i64 0 ∧ i = .int .i64 0) (fun _ _ => 0)
    case atStart => exact ⟨rfl, rfl⟩
    case round =>
      obtain ⟨rfl, rfl⟩ := hrel
      go_wp2
      go_ret
      exact ⟨rfl, rfl⟩
  · unfold maxLen at hcap
    simp only [List.length_map] at *
    have HC := Lib.hid hcell
    clear hcell
    go_enter Try.func21, Try.ntmps21
    go_wp2
    go_loop [3, 4] (fun n i => ∃ (k : Nat) (x : Int), k ≤ l.length ∧ i = .int .i64 k ∧ n = .int .i64 x ∧ 0 ≤ x ∧ sumN l 0 = sumN (l.drop k) x) (fun _ i => l.length - (intOf i).toNat)
    case atStart => exact ⟨0, 0, by omega, rfl, rfl, by omega, rfl⟩
    case round =>
      obtain ⟨k, x, hk, rfl, rfl, hx, hs⟩ := hrel
      have HS := Lib.hid hs
      clear hs
      by_cases hlt : k < l.length
      · have hc : w.cell? ⟨b, off + k, none⟩ = some (.int .i64 l[k]) := HC.out k _ (by simp [hlt])
        have HD : Hid (l.drop k = l[k] :: l.drop (k + 1)) := Lib.hid (List.drop_eq_getElem_cons hlt)
        generalize l[k] = y at *
        cases ha : addB x y
        · have hv : rAdd x y = -1 := by simp [rAdd, ha]
          go_wp2_with (go_at_call 19; refine (rAdd_any _ _ _).mono ?_; rintro e w' ⟨rfl, rfl⟩)
          go_ret
          have e : sumN l 0 = -1 := by rw [HS.out, HD.out]; simp [sumN, ha]
          simp [rSumV, sumsB, e]
        · have hv : rAdd x y = x + y := by simp [rAdd, ha]
          have hxy : 0 ≤ x + y := by simp [addB, sumB] at ha; omega
          go_wp2_with (go_at_call 19; refine (rAdd_any _ _ _).mono ?_; rintro e w' ⟨rfl, rfl⟩)
          go_round
          case rel => exact ⟨k + 1, x + y, by omega, by go_num, rfl, hxy, by rw [HS.out, HD.out]; simp [sumN, ha]⟩
          case measure => simp [intOf]; omega
      · go_wp2
        go_ret
        have e : sumN l 0 = x := by rw [HS.out, List.drop_of_length_le (by omega)]; rfl
        simp [rSumV, sumsB, e]
        omega
end Quota
end Go.Proofs.Ytdleoohhnldlgaa
