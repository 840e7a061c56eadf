/- bodies, plain: a store as a list of numbers and bodies, in the order in which they came. -/
import Derived.Test.YtklbemkafdccgaaGreatK07
import Derived.Test.YtklbemkafdccgaaGreatK10
namespace Go.Proofs.YtklbemkafdccgaaGreat.Bds
open Go.Proofs.YtklbemkafdccgaaGreat.Rcd (Rec Fnd frmL chk catX inX)
structure BdP where
 next : Int
 broken : Int
 L : List (Int × Str)
def nums (L : List (Int × Str)) (k : TrK) : List Int := (L.filter fun x => decide (trP x.2 = k)).map (·.1)
def bodyOf (L : List (Int × Str)) (n : Int) : Option Str := Mp.look L n
def findStep (L : List (Int × Str)) (b : Str) (f n : Int) : Int := if bodyOf L n = some b ∧ (f = 0 ∨ n < f) then n else f
def findB (s : BdP) (b : Str) : Int := (nums s.L (trP b)).foldl (findStep s.L b) 0
def keysB (s : BdP) : List Int := s.L.map (·.1)
def addB (s : BdP) (n : Int) (b : Str) : BdP × Bool :=
 if n ∈ keysB s then (⟨max s.next (n + 1), s.broken, s.L⟩, false) else (⟨max s.next (n + 1), s.broken, s.L ++ [(n, b)]⟩, true)
theorem nums_snoc (L : List (Int × Str)) (n : Int) (b : Str) (k : TrK) : nums (L ++ [(n, b)]) k = nums L k ++ (if trP b = k then [n] else []) := by
 unfold nums
 rw [List.filter_append, List.map_append]
 congr 1
 by_cases h : trP b = k
 ·simp [h]
 ·simp [h]
/-- one record that was found -/
def loadStep (s : BdP) (f : Fnd) : BdP :=
 if f.rc.kind = 6 then (if (addB s f.rc.body f.rc.data).2 = true then { (addB s f.rc.body f.rc.data).1 with broken := (addB s f.rc.body f.rc.data).1.broken - f.len } else (addB s f.rc.body f.rc.data).1) else s
def load0 (n : Nat) : BdP := ⟨1, n, []⟩
def loadF (fs : List Fnd) (n : Nat) : BdP := fs.foldl loadStep (load0 n)
/-- the record of a body -/
def bdRec (n : Int) (b : Str) : Rec := ⟨6, 0, 0, 0, 0, 0, 0, 0, n, 0, 0, b⟩
theorem chk_bd {n : Int} {b : Str} (h1 : 1 ≤ n) (h2 : n ≤ 2147483648) (hb : b.length ≤ 32768) : chk (bdRec n b) = 0 := by
 unfold chk
 rw [if_neg (by show ¬ ((6 : Int) < 1 ∨ (6 : Int) < 6); omega), if_neg, if_neg (by show ¬ ((6 : Int) = 6 ∧ 32768 < b.length); omega), if_pos (show bdRec n b = Rcd.bare (bdRec n b) from rfl)]
 simp only [Bool.not_eq_false]
 have e : Rcd.partsL 6 = [Rcd.pBody] := rfl
 unfold Rcd.within
 rw [show (bdRec n b).kind = 6 from rfl, e, List.all_cons, List.all_nil, Bool.and_true]
 unfold Rcd.okP
 rw [show Rcd.fld (bdRec n b) Rcd.pBody.off = n from rfl, show Rcd.pBody.low = 1 from rfl, show Rcd.pBody.high = 2147483648 from rfl]
 simp [h1, h2]
def frB (x : Int × Str) : Str := frmL (bdRec x.1 x.2)
def framesB (L : List (Int × Str)) : Str := L.flatMap frB
end Go.Proofs.YtklbemkafdccgaaGreat.Bds
