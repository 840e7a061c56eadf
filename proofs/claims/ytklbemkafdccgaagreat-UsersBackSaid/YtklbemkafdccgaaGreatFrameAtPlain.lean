/- The frame at a place: plain. No program. -/
import Derived.Test.YtklbemkafdccgaaGreatK00
namespace Go.Proofs.YtklbemkafdccgaaGreat.Frm
open Oct

structure Fr1 where
 at' : Int
 len : Int
 kind : Int
 pay : List UInt8

def headN (o : List UInt8) : Nat := getV o 1 4
/-- a frame's bytes behind the mark: the error; what was read; how many bytes it took -/
def inner (r : List UInt8) : Int × List UInt8 × Nat :=
 if (rdN 5 r).1 ≠ 0 then rdN 5 r
 else if 65536 < headN (rdN 5 r).2.1 then (4, [], 0)
 else if (rdN (9 + headN (rdN 5 r).2.1) r).1 ≠ 0 then rdN (9 + headN (rdN 5 r).2.1) r
 else if (Crc.more 0 ((rdN (9 + headN (rdN 5 r).2.1) r).2.1.take 5 ++ (rdN (9 + headN (rdN 5 r).2.1) r).2.1.drop 9) : Nat) ≠ getV (rdN (9 + headN (rdN 5 r).2.1) r).2.1 5 4 then (5, [], 0)
 else rdN (9 + headN (rdN 5 r).2.1) r
/-- a byte list whose first byte is the mark, or not -/
def atE (l : List UInt8) (a : Int) : Int :=
 if a < 0 ∨ (l.length : Int) < a then 1 else match l.drop a.toNat with | [] => 2 | c :: r => if c ≠ 80 then 3 else (inner r).1
def atF (l : List UInt8) (a : Int) : Fr1 :=
 if atE l a = 0 then match l.drop a.toNat with | [] => ⟨0, 0, 0, []⟩ | _ :: r => ⟨a, 1 + (inner r).2.2, ((inner r).2.1.headD 0).toNat, (inner r).2.1.drop 9⟩ else ⟨0, 0, 0, []⟩

end Go.Proofs.YtklbemkafdccgaaGreat.Frm
