/- The source's Text. -/
import Derived.Test.YtekkjhjaacjhnaaOctetRaw
namespace Go.Proofs.Ytekkjhjaacjhnaa
open Go.RowKit
namespace Oct

def tE (l : List UInt8) (a : Nat) (er most : Int) : Int :=
  if uE l.length a er 4 ≠ 0 then uE l.length a er 4 else if most < 0 ∨ most < (getV l a 4 : Int) then 4 else if (l.length : Int) - a - 4 < (getV l a 4 : Int) then 2 else 0
def tA (l : List UInt8) (a : Nat) (er most : Int) : Nat := if tE l a er most = 0 then a + 4 + getV l a 4 else a
def tL (l : List UInt8) (a : Nat) (er most : Int) : List UInt8 := if tE l a er most = 0 then (l.drop (a + 4)).take (getV l a 4) else []

theorem getV4_lt {l : List UInt8} {a : Int} : getV l a 4 < 4294967296 := by
  unfold getV
  split
  · have := valOf_lt' (l := (l.drop a.toNat).take (4 : Int).toNat) (j := 4) (by rw [List.length_take]; exact Nat.min_le_left _ _)
    simpa using this
  · omega

end Oct
end Go.Proofs.Ytekkjhjaacjhnaa
