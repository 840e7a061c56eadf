/- The functions of package quota compute what the plain functions beside them say; for every argument and world. -/
import Derived.Test.YtdleoohhnldlgaaRows
import Derived.Test.YtdleoohhnldlgaaBase
import Derived.Deep.QuietTactic
import Derived.BigQuiet
namespace Go.Proofs.Ytdleoohhnldlgaa
open Go.RowKit
namespace Quota

def sumB (a : Int) : Bool := decide (0 ≤ a ∧ a ≤ 9007199254740992)
def addB (a b : Int) : Bool := sumB a && sumB b && decide (a + b ≤ 9007199254740992)
def addV (a b : Int) : Int := if addB a b then a + b else 0
def boundB (a : Int) : Bool := a == -1 || sumB a
def goodB (b c : Int) : Bool := boundB b && boundB c
def aboveB (n b : Int) : Bool := decide (0 ≤ b ∧ b < n)
def overB (lb lc ub uc : Int) : Bool := goodB lb lc && (aboveB ub lb || aboveB uc lc)
def putB (ub uc s : Int) : Bool := addB ub s && addB uc 1
def putV (ub uc s : Int) : Int := if putB ub uc s then ub + s else 0
def putC (ub uc s : Int) : Int := if putB ub uc s then uc + 1 else 0
def fitsB (lb lc ub uc s : Int) : Bool := putB ub uc s && goodB lb lc && !overB lb lc (putV ub uc s) (putC ub uc s)
def takeB (ub uc s : Int) : Bool := sumB ub && sumB uc && sumB s && decide (s ≤ ub) && !(uc == 0)
def takeV (ub uc s : Int) : Int := if takeB ub uc s then ub - s else 0
def takeC (ub uc s : Int) : Int := if takeB ub uc s then uc - 1 else 0
def leftV (lb lc ub uc : Int) : Int := if fitsB lb lc ub uc 0 then (if lb < 0 then 9007199254740992 - ub else lb - ub) else -1

theorem isSum_any (a : Int) (w : World) :
    Calls Try.prog 36 #[.int .i64 a] w fun e w' => e = .returned (.bool (sumB a)) ∧ w = w' := by
  go_enter Try.func36, Try.ntmps36
  go_wp2
  all_goals go_ret
  all_goals (refine ⟨?_, rfl⟩; simp [sumB, *])
  all_goals omega

theorem add_any (a b : Int) (w : World) :
    Calls Try.prog 18 #[.int .i64 a, .int .i64 b] w fun e w' => e = .returned (.tuple #[.int .i64 (addV a b), .bool (addB a b)]) ∧ w = w' := by
  cases ha : sumB a
  · go_enter Try.func18, Try.ntmps18
    go_wp2_with (go_at_call 36; refine (isSum_any _ _).mono ?_; rintro e w' ⟨rfl, rfl⟩)
    go_ret2
    refine ⟨?_, rfl⟩
    simp [addB, addV, ha]
  · cases hb : sumB b
    · go_enter Try.func18, Try.ntmps18
      go_wp2_with (go_at_call 36; refine (isSum_any _ _).mono ?_; rintro e w' ⟨rfl, rfl⟩)
      go_ret2
      refine ⟨?_, rfl⟩
      simp [addB, addV, ha, hb]
    · have h1 : 0 ≤ a ∧ a ≤ 9007199254740992 := by simpa [sumB] using ha
      have h2 : 0 ≤ b ∧ b ≤ 9007199254740992 := by simpa [sumB] using hb
      go_enter Try.func18, Try.ntmps18
      go_wp2_with (go_at_call 36; refine (isSum_any _ _).mono ?_; rintro e w' ⟨rfl, rfl⟩)
      all_goals go_ret2
      all_goals refine ⟨?_, rfl⟩
      all_goals simp [addB, addV, ha, hb]
      all_goals omega

theorem isBound_any (a : Int) (w : World) :
    Calls Try.prog 38 #[.int .i64 a] w fun e w' => e = .returned (.bool (boundB a)) ∧ w = w' := by
  by_cases h : a = -1
  · go_enter Try.func38, Try.ntmps38
    go_wp2_with (go_at_call 36; refine (isSum_any _ _).mono ?_; rintro e w' ⟨rfl, rfl⟩)
    go_ret
    exact ⟨by simp [boundB, h], rfl⟩
  · go_enter Try.func38, Try.ntmps38
    go_wp2_with (go_at_call 36; refine (isSum_any _ _).mono ?_; rintro e w' ⟨rfl, rfl⟩)
    go_ret
    exact ⟨by simp [boundB, h], rfl⟩

theorem above_any (n b : Int) (w : World) :
    Calls Try.prog 39 #[.int .i64 n, .int .i64 b] w fun e w' => e = .returned (.bool (aboveB n b)) ∧ w = w' := by
  go_enter Try.func39, Try.ntmps39
  go_wp2
  all_goals go_ret
  all_goals (refine ⟨?_, rfl⟩; simp [aboveB, *])
  all_goals omega

theorem good_any (b c : Int) (w : World) :
    Calls Try.prog 22 #[.agg #[.int .i64 b, .int .i64 c]] w fun e w' => e = .returned (.bool (goodB b c)) ∧ Keeps w w' := by
  cases hb : boundB b
  all_goals
    go_enter Try.func22, Try.ntmps22
    go_wp2_with (go_at_call 38; refine (isBound_any _ _).mono ?_; rintro e w' ⟨rfl, rfl⟩)
    go_ret
    exact ⟨by simp [goodB, hb], (Keeps.refl _).alloc _⟩

theorem put_any (b c s : Int) (w : World) :
    Calls Try.prog 26 #[.agg #[.int .i64 b, .int .i64 c], .int .i64 s] w fun e w' => e = .returned (.tuple #[.agg #[.int .i64 (putV b c s), .int .i64 (putC b c s)], .bool (putB b c s)]) ∧ Keeps w w' := by
  have hav : addB b s = true → addV b s = b + s := fun h => by simp [addV, h]
  have hac : addB c 1 = true → addV c 1 = c + 1 := fun h => by simp [addV, h]
  cases hb : addB b s <;> cases hc : addB c 1
  all_goals
    have hx := hav
    have hy := hac
    clear hav hac
    go_enter Try.func26, Try.ntmps26
    go_wp2_with (go_at_call 18; refine (add_any _ _ _).mono ?_; rintro e w' ⟨rfl, rfl⟩)
    refine bodyPost_ret (by simp [results, Try.results26, go_sem]; rfl) rfl ⟨?_, by repeat (first | exact Keeps.refl _ | refine Keeps.alloc ?_ _ | refine Keeps.setCell ?_ (by simp; try omega) _)⟩
    simp [putV, putC, putB, hb, hc]

theorem take_any (b c s : Int) (w : World) :
    Calls Try.prog 28 #[.agg #[.int .i64 b, .int .i64 c], .int .i64 s] w fun e w' => e = .returned (.tuple #[.agg #[.int .i64 (takeV b c s), .int .i64 (takeC b c s)], .bool (takeB b c s)]) ∧ Keeps w w' := by
  cases hb : sumB b
  · go_enter Try.func28, Try.ntmps28
    go_wp2_with (go_at_call 36; refine (isSum_any _ _).mono ?_; rintro e w' ⟨rfl, rfl⟩)
    refine bodyPost_ret (by simp [results, Try.results28, go_sem]; rfl) rfl ⟨?_, by repeat (first | exact Keeps.refl _ | refine Keeps.alloc ?_ _ | refine Keeps.setCell ?_ (by simp; try omega) _)⟩
    simp [takeB, takeV, takeC, hb]
  · cases hc : sumB c
    · go_enter Try.func28, Try.ntmps28
      go_wp2_with (go_at_call 36; refine (isSum_any _ _).mono ?_; rintro e w' ⟨rfl, rfl⟩)
      refine bodyPost_ret (by simp [results, Try.results28, go_sem]; rfl) rfl ⟨?_, by repeat (first | exact Keeps.refl _ | refine Keeps.alloc ?_ _ | refine Keeps.setCell ?_ (by simp; try omega) _)⟩
      simp [takeB, takeV, takeC, hb, hc]
    · cases hs : sumB s
      · go_enter Try.func28, Try.ntmps28
        go_wp2_with (go_at_call 36; refine (isSum_any _ _).mono ?_; rintro e w' ⟨rfl, rfl⟩)
        refine bodyPost_ret (by simp [results, Try.results28, go_sem]; rfl) rfl ⟨?_, by repeat (first | exact Keeps.refl _ | refine Keeps.alloc ?_ _ | refine Keeps.setCell ?_ (by simp; try omega) _)⟩
        simp [takeB, takeV, takeC, hb, hc, hs]
      · have h1 : 0 ≤ b ∧ b ≤ 9007199254740992 := by simpa [sumB] using hb
        have h2 : 0 ≤ c ∧ c ≤ 9007199254740992 := by simpa [sumB] using hc
        have h3 : 0 ≤ s ∧ s ≤ 9007199254740992 := by simpa [sumB] using hs
        by_cases hsb : b < s
        · go_enter Try.func28, Try.ntmps28
          go_wp2_with (go_at_call 36; refine (isSum_any _ _).mono ?_; rintro e w' ⟨rfl, rfl⟩)
          refine bodyPost_ret (by simp [results, Try.results28, go_sem]; rfl) rfl ⟨?_, by repeat (first | exact Keeps.refl _ | refine Keeps.alloc ?_ _ | refine Keeps.setCell ?_ (by simp; try omega) _)⟩
          have : ¬ s ≤ b := by omega
          simp [takeB, takeV, takeC, hb, hc, hs, this]
        · cases h0 : (c == 0)
          all_goals
            go_enter Try.func28, Try.ntmps28
            go_wp2_with (go_at_call 36; refine (isSum_any _ _).mono ?_; rintro e w' ⟨rfl, rfl⟩)
            refine bodyPost_ret (by simp [results, Try.results28, go_sem]; rfl) rfl ⟨?_, by repeat (first | exact Keeps.refl _ | refine Keeps.alloc ?_ _ | refine Keeps.setCell ?_ (by simp; try omega) _)⟩
            have : s ≤ b := by omega
            simp [takeB, takeV, takeC, hb, hc, hs, this, h0]

theorem over_any (lb lc ub uc : Int) (w : World) :
    Calls Try.prog 31 #[.agg #[.int .i64 lb, .int .i64 lc], .agg #[.int .i64 ub, .int .i64 uc]] w fun e w' => e = .returned (.bool (overB lb lc ub uc)) ∧ Keeps w w' := by
  cases hg : goodB lb lc <;> cases ha : aboveB ub lb
  all_goals
    go_enter Try.func31, Try.ntmps31
    go_wp2_with (first | (go_at_call 22; refine (good_any _ _ _).mono ?_; rintro e w1 ⟨rfl, hk1⟩; obtain ⟨hc, hf⟩ := kcell hk1; have hz : w.heap.size + 1 < w1.heap.size := by have := hk1.size; simp at this; omega) | (go_at_call 39; refine (above_any _ _ _).mono ?_; rintro e w' ⟨rfl, rfl⟩))
    go_ret
    exact ⟨by simp [overB, hg, ha], by repeat (first | exact Keeps.refl _ | refine Keeps.alloc ?_ _ | refine Keeps.setCell ?_ (by simp; try omega) _ | refine Keeps.trans ?_ hk1)⟩

theorem fits_any (lb lc ub uc s : Int) (w : World) :
    Calls Try.prog 25 #[.agg #[.int .i64 lb, .int .i64 lc], .agg #[.int .i64 ub, .int .i64 uc], .int .i64 s] w fun e w' => e = .returned (.bool (fitsB lb lc ub uc s)) ∧ Keeps w w' := by
  cases hp : putB ub uc s <;> cases hg : goodB lb lc
  all_goals
    go_enter Try.func25, Try.ntmps25
    go_wp2_with fail
    refine (put_any _ _ _ _).mono ?_
    rintro e w1 ⟨rfl, hk1⟩
    obtain ⟨hc, hf⟩ := kcell hk1
    have hz : w.heap.size < w1.heap.size ∧ w.heap.size + 1 < w1.heap.size := by have := hk1.size; simp at this; omega
    obtain ⟨hz0, hz⟩ := hz
    go_wp2_with (first | (go_at_call 22; refine (good_any _ _ _).mono ?_; rintro e w2 ⟨rfl, hk2⟩; obtain ⟨hc2, hf2⟩ := kcell hk2; have hz2 : w1.heap.size < w2.heap.size := by have := hk2.size; simp at this; omega) | (go_at_call 31; refine (over_any _ _ _ _ _).mono ?_; rintro e w3 ⟨rfl, hk3⟩))
    go_ret
    exact ⟨by simp [fitsB, hp, hg], by repeat (first | exact Keeps.refl _ | refine Keeps.alloc ?_ _ | refine Keeps.setCell ?_ (by simp; try omega) _ | refine Keeps.trans ?_ hk1 | refine Keeps.trans ?_ hk2 | refine Keeps.trans ?_ hk3)⟩

theorem left_any (lb lc ub uc : Int) (w : World) (w1 : (Lit.int .i64 lb).wf = true) :
    Calls Try.prog 24 #[.agg #[.int .i64 lb, .int .i64 lc], .agg #[.int .i64 ub, .int .i64 uc]] w fun e w' => e = .returned (.int .i64 (leftV lb lc ub uc)) ∧ Keeps w w' := by
  cases hf : fitsB lb lc ub uc 0
  · go_enter Try.func24, Try.ntmps24
    go_wp2_with (go_at_call 25; refine (fits_any _ _ _ _ _ _).mono ?_; rintro e w1 ⟨rfl, hk1⟩; obtain ⟨hc, hfr⟩ := kcell hk1; have hz : w.heap.size < w1.heap.size ∧ w.heap.size + 1 < w1.heap.size := by have := hk1.size; simp at this; omega)
    go_ret
    exact ⟨by simp [leftV, hf], by repeat (first | exact Keeps.refl _ | refine Keeps.alloc ?_ _ | refine Keeps.setCell ?_ (by simp; try omega) _ | refine Keeps.trans ?_ hk1 | refine Keeps.trans ?_ hk2 | refine Keeps.trans ?_ hk3)⟩
  · have hx : 0 ≤ ub ∧ ub ≤ 9007199254740992 := by simp [fitsB, putB, addB, sumB] at hf; omega
    have hy : lb ≤ 9007199254740992 ∧ -1 ≤ lb := by simp [fitsB, goodB, boundB, sumB] at hf; omega
    by_cases hlt : lb < 0
    · go_enter Try.func24, Try.ntmps24
      go_wp2_with (go_at_call 25; refine (fits_any _ _ _ _ _ _).mono ?_; rintro e w1 ⟨rfl, hk1⟩; obtain ⟨hc, hfr⟩ := kcell hk1; have hz : w.heap.size < w1.heap.size ∧ w.heap.size + 1 < w1.heap.size := by have := hk1.size; simp at this; omega)
      go_ret
      exact ⟨by simp [leftV, hf, hlt], by repeat (first | exact Keeps.refl _ | refine Keeps.alloc ?_ _ | refine Keeps.setCell ?_ (by simp; try omega) _ | refine Keeps.trans ?_ hk1 | refine Keeps.trans ?_ hk2 | refine Keeps.trans ?_ hk3)⟩
    · have hlt' : 0 ≤ lb := by omega
      go_enter Try.func24, Try.ntmps24
      go_wp2_with (go_at_call 25; refine (fits_any _ _ _ _ _ _).mono ?_; rintro e w1 ⟨rfl, hk1⟩; obtain ⟨hc, hfr⟩ := kcell hk1; have hz : w.heap.size < w1.heap.size ∧ w.heap.size + 1 < w1.heap.size := by have := hk1.size; simp at this; omega)
      go_ret
      exact ⟨by simp [leftV, hf]; omega, by repeat (first | exact Keeps.refl _ | refine Keeps.alloc ?_ _ | refine Keeps.setCell ?_ (by simp; try omega) _ | refine Keeps.trans ?_ hk1 | refine Keeps.trans ?_ hk2 | refine Keeps.trans ?_ hk3)⟩


/-! ### The loop: Sum -/
def sumN : List Int → Int → Int
  | [], n => n
  | x :: l, n => if addB n x then sumN l (n + x) else -1
def sumsB (l : List Int) : Bool := decide (0 ≤ sumN l 0)
def sumsV (l : List Int) : Int := if sumsB l then sumN l 0 else 0

theorem sumN_take (l : List Int) : ∀ n, sumN l n = if sumN l n = -1 then -1 else sumN l n := by intro n; split <;> simp [*]

theorem sum_any (v : Value) (l : List Int) (w : World) (h : Row w v (l.map (.int .i64))) :
    Calls Try.prog 20 #[v] w fun e w' => e = .returned (.tuple #[.int .i64 (sumsV l), .bool (sumsB l)]) ∧ w = w' := by
  rcases h with ⟨a0, cap, rfl, hl, -, -⟩ | ⟨b, off, cap, rfl, hle, hcap, hcell⟩
  · obtain rfl : l = [] := by simpa using hl
    have e1 : sumsV [] = 0 := rfl
    have e2 : sumsB [] = true := rfl
    rw [e1, e2]
    go_enter Try.func20, Try.ntmps20
    go_wp2
    go_loop [4, 5, 10] (fun n ok i => n = .int .i64 0 ∧ ok = .bool true ∧ i = .int .i64 0) (fun _ _ _ => 0)
    case atStart => exact ⟨rfl, rfl, rfl⟩
    case round =>
      obtain ⟨rfl, rfl, rfl⟩ := hrel
      go_wp2
      go_ret2
      exact ⟨rfl, rfl⟩
  · unfold maxLen at hcap
    simp only [List.length_map] at *
    have HC := Lib.hid hcell
    clear hcell
    go_enter Try.func20, Try.ntmps20
    go_wp2
    go_loop [4, 5, 10] (fun n ok i => ∃ (k : Nat) (x : Int), k ≤ l.length ∧ i = .int .i64 k ∧ n = .int .i64 x ∧ ok = .bool true ∧ 0 ≤ x ∧ sumN l 0 = sumN (l.drop k) x) (fun _ _ i => l.length - (intOf i).toNat)
    case atStart => exact ⟨0, 0, by omega, rfl, rfl, rfl, by omega, rfl⟩
    case round =>
      obtain ⟨k, x, hk, rfl, rfl, rfl, hx, hs⟩ := hrel
      have HS := Lib.hid hs
      clear hs
      by_cases hlt : k < l.length
      · have hc : w.cell? ⟨b, off + k, none⟩ = some (.int .i64 l[k]) := HC.out k _ (by simp [hlt])
        have HD : Hid (l.drop k = l[k] :: l.drop (k + 1)) := Lib.hid (List.drop_eq_getElem_cons hlt)
        generalize l[k] = y at *
        cases ha : addB x y
        · go_wp2_with (go_at_call 18; refine (add_any _ _ _).mono ?_; rintro e w' ⟨rfl, rfl⟩)
          go_ret2
          have e : sumN l 0 = -1 := by rw [HS.out, HD.out]; simp [sumN, ha]
          simp [sumsV, sumsB, e]
        · have hv : addV x y = x + y := by simp [addV, ha]
          go_wp2_with (go_at_call 18; refine (add_any _ _ _).mono ?_; rintro e w' ⟨rfl, rfl⟩)
          go_round
          case rel => exact ⟨k + 1, x + y, by omega, by go_num, rfl, rfl, by simp [addB, sumB] at ha; omega, by rw [HS.out, HD.out]; simp [sumN, ha]⟩
          case measure => simp [intOf]; omega
      · go_wp2
        go_ret2
        have e : sumN l 0 = x := by rw [HS.out, List.drop_of_length_le (by omega)]; rfl
        simp [sumsV, sumsB, e]
        omega
end Quota
end Go.Proofs.Ytdleoohhnldlgaa
