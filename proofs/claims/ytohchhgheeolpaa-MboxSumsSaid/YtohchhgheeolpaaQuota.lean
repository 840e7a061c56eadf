/- The functions of package quota compute what the plain functions beside them say; for every argument and world. -/
import Derived.Test.YtohchhgheeolpaaRows
import Derived.Test.YtohchhgheeolpaaPGen
import Derived.Deep.QuietTactic
import Derived.BigQuiet
namespace Go.Proofs.Ytohchhgheeolpaa
open Go.RowKit
namespace Quota

def sumB (a : Int) : Bool := decide (0 ≤ a ∧ a ≤ 9007199254740992)
def addB (a b : Int) : Bool := sumB a && sumB b && decide (a + b ≤ 9007199254740992)
def addV (a b : Int) : Int := if addB a b then a + b else 0
def boundB (a : Int) : Bool := a == -1 || sumB a
def goodB (b c : Int) : Bool := boundB b && boundB c
def aboveB (n b : Int) : Bool := decide (0 ≤ b ∧ b < n)
def overB (lb lc ub uc : Int) : Bool := goodB lb lc && (aboveB ub lb || aboveB uc lc)
def putB (ub uc s : Int) : Bool := addB ub s && addB uc 1
def putV (ub uc s : Int) : Int := if putB ub uc s then ub + s else 0
def putC (ub uc s : Int) : Int := if putB ub uc s then uc + 1 else 0
def fitsB (lb lc ub uc s : Int) : Bool := putB ub uc s && goodB lb lc && !overB lb lc (putV ub uc s) (putC ub uc s)
def takeB (ub uc s : Int) : Bool := sumB ub && sumB uc && sumB s && decide (s ≤ ub) && !(uc == 0)
def takeV (ub uc s : Int) : Int := if takeB ub uc s then ub - s else 0
def takeC (ub uc s : Int) : Int := if takeB ub uc s then uc - 1 else 0
def leftV (lb lc ub uc : Int) : Int := if fitsB lb lc ub uc 0 then (if lb < 0 then 9007199254740992 - ub else lb - ub) else -1

theorem isSum_any (a : Int) (w : World) :
    Calls Try.prog 219 #[.int .i64 a] w fun e w' => e = .returned (.bool (sumB a)) ∧ w = w' := by
  go_enter Try.func219, Try.ntmps219
  go_wp2
  all_goals go_ret
  all_goals (refine ⟨?_, rfl⟩; simp [sumB, *])
  all_goals omega

theorem add_any (a b : Int) (w : World) :
    Calls Try.prog 218 #[.int .i64 a, .int .i64 b] w fun e w' => e = .returned (.tuple #[.int .i64 (addV a b), .bool (addB a b)]) ∧ w = w' := by
  cases ha : sumB a
  · go_enter Try.func218, Try.ntmps218
    go_wp2_with (go_at_call 219; refine (isSum_any _ _).mono ?_; rintro e w' ⟨rfl, rfl⟩)
    go_ret2
    refine ⟨?_, rfl⟩
    simp [addB, addV, ha]
  · cases hb : sumB b
    · go_enter Try.func218, Try.ntmps218
      go_wp2_with (go_at_call 219; refine (isSum_any _ _).mono ?_; rintro e w' ⟨rfl, rfl⟩)
      go_ret2
      refine ⟨?_, rfl⟩
      simp [addB, addV, ha, hb]
    · have h1 : 0 ≤ a ∧ a ≤ 9007199254740992 := by simpa [sumB] using ha
      have h2 : 0 ≤ b ∧ b ≤ 9007199254740992 := by simpa [sumB] using hb
      go_enter Try.func218, Try.ntmps218
      go_wp2_with (go_at_call 219; refine (isSum_any _ _).mono ?_; rintro e w' ⟨rfl, rfl⟩)
      all_goals go_ret2
      all_goals refine ⟨?_, rfl⟩
      all_goals simp [addB, addV, ha, hb]
      all_goals omega

theorem put_any (b c s : Int) (w : World) :
    Calls Try.prog 187 #[.agg #[.int .i64 b, .int .i64 c], .int .i64 s] w fun e w' => e = .returned (.tuple #[.agg #[.int .i64 (putV b c s), .int .i64 (putC b c s)], .bool (putB b c s)]) ∧ Keeps w w' := by
  have hav : addB b s = true → addV b s = b + s := fun h => by simp [addV, h]
  have hac : addB c 1 = true → addV c 1 = c + 1 := fun h => by simp [addV, h]
  cases hb : addB b s <;> cases hc : addB c 1
  all_goals
    have hx := hav
    have hy := hac
    clear hav hac
    go_enter Try.func187, Try.ntmps187
    go_wp2_with (go_at_call 218; refine (add_any _ _ _).mono ?_; rintro e w' ⟨rfl, rfl⟩)
    refine bodyPost_ret (by simp [results, Try.results187, go_sem]; rfl) rfl ⟨?_, by repeat (first | exact Keeps.refl _ | refine Keeps.alloc ?_ _ | refine Keeps.setCell ?_ (by simp; try omega) _)⟩
    simp [putV, putC, putB, hb, hc]

theorem take_any (b c s : Int) (w : World) :
    Calls Try.prog 189 #[.agg #[.int .i64 b, .int .i64 c], .int .i64 s] w fun e w' => e = .returned (.tuple #[.agg #[.int .i64 (takeV b c s), .int .i64 (takeC b c s)], .bool (takeB b c s)]) ∧ Keeps w w' := by
  cases hb : sumB b
  · go_enter Try.func189, Try.ntmps189
    go_wp2_with (go_at_call 219; refine (isSum_any _ _).mono ?_; rintro e w' ⟨rfl, rfl⟩)
    refine bodyPost_ret (by simp [results, Try.results189, go_sem]; rfl) rfl ⟨?_, by repeat (first | exact Keeps.refl _ | refine Keeps.alloc ?_ _ | refine Keeps.setCell ?_ (by simp; try omega) _)⟩
    simp [takeB, takeV, takeC, hb]
  · cases hc : sumB c
    · go_enter Try.func189, Try.ntmps189
      go_wp2_with (go_at_call 219; refine (isSum_any _ _).mono ?_; rintro e w' ⟨rfl, rfl⟩)
      refine bodyPost_ret (by simp [results, Try.results189, go_sem]; rfl) rfl ⟨?_, by repeat (first | exact Keeps.refl _ | refine Keeps.alloc ?_ _ | refine Keeps.setCell ?_ (by simp; try omega) _)⟩
      simp [takeB, takeV, takeC, hb, hc]
    · cases hs : sumB s
      · go_enter Try.func189, Try.ntmps189
        go_wp2_with (go_at_call 219; refine (isSum_any _ _).mono ?_; rintro e w' ⟨rfl, rfl⟩)
        refine bodyPost_ret (by simp [results, Try.results189, go_sem]; rfl) rfl ⟨?_, by repeat (first | exact Keeps.refl _ | refine Keeps.alloc ?_ _ | refine Keeps.setCell ?_ (by simp; try omega) _)⟩
        simp [takeB, takeV, takeC, hb, hc, hs]
      · have h1 : 0 ≤ b ∧ b ≤ 9007199254740992 := by simpa [sumB] using hb
        have h2 : 0 ≤ c ∧ c ≤ 9007199254740992 := by simpa [sumB] using hc
        have h3 : 0 ≤ s ∧ s ≤ 9007199254740992 := by simpa [sumB] using hs
        by_cases hsb : b < s
        · go_enter Try.func189, Try.ntmps189
          go_wp2_with (go_at_call 219; refine (isSum_any _ _).mono ?_; rintro e w' ⟨rfl, rfl⟩)
          refine bodyPost_ret (by simp [results, Try.results189, go_sem]; rfl) rfl ⟨?_, by repeat (first | exact Keeps.refl _ | refine Keeps.alloc ?_ _ | refine Keeps.setCell ?_ (by simp; try omega) _)⟩
          have : ¬ s ≤ b := by omega
          simp [takeB, takeV, takeC, hb, hc, hs, this]
        · cases h0 : (c == 0)
          all_goals
            go_enter Try.func189, Try.ntmps189
            go_wp2_with (go_at_call 219; refine (isSum_any _ _).mono ?_; rintro e w' ⟨rfl, rfl⟩)
            refine bodyPost_ret (by simp [results, Try.results189, go_sem]; rfl) rfl ⟨?_, by repeat (first | exact Keeps.refl _ | refine Keeps.alloc ?_ _ | refine Keeps.setCell ?_ (by simp; try omega) _)⟩
            have : s ≤ b := by omega
            simp [takeB, takeV, takeC, hb, hc, hs, this, h0]

/-! ### The loop: Sum -/
def sumN : List Int → Int → Int
  | [], n => n
  | x :: l, n => if addB n x then sumN l (n + x) else -1
def sumsB (l : List Int) : Bool := decide (0 ≤ sumN l 0)
def sumsV (l : List Int) : Int := if sumsB l then sumN l 0 else 0

theorem sumN_take (l : List Int) : ∀ n, sumN l n = if sumN l n = -1 then -1 else sumN l n := by intro n; split <;> simp [*]

end Quota
end Go.Proofs.Ytohchhgheeolpaa
