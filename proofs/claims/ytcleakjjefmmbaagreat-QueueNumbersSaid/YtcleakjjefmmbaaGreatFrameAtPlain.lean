/- The frame at a place: plain. No program. -/
import Derived.Test.YtcleakjjefmmbaaGreatK00
namespace Go.Proofs.YtcleakjjefmmbaaGreat.Frm
open Oct

structure Fr1 where
 at' : Int
 len : Int
 kind : Int
 pay : List UInt8

def headN (o : List UInt8) : Nat := getV o 1 4
/-- a frame's bytes behind the mark: the error; what was read; how many bytes it took -/
def inner (r : List UInt8) : Int × List UInt8 × Nat :=
 if (rdN 5 r).1 ≠ 0 then rdN 5 r
 else if 65536 < headN (rdN 5 r).2.1 then (4, [], 0)
 else if (rdN (9 + headN (rdN 5 r).2.1) r).1 ≠ 0 then rdN (9 + headN (rdN 5 r).2.1) r
 else if (Crc.more 0 ((rdN (9 + headN (rdN 5 r).2.1) r).2.1.take 5 ++ (rdN (9 + headN (rdN 5 r).2.1) r).2.1.drop 9) : Nat) ≠ getV (rdN (9 + headN (rdN 5 r).2.1) r).2.1 5 4 then (5, [], 0)
 else rdN (9 + headN (rdN 5 r).2.1) r
/-- a byte list whose first byte is the mark, or not -/
def atE (l : List UInt8) (a : Int) : Int :=
 if a < 0 ∨ (l.length : Int) < a then 1 else match l.drop a.toNat with | [] => 2 | c :: r => if c ≠ 80 then 3 else (inner r).1
def atF (l : List UInt8) (a : Int) : Fr1 :=
 if atE l a = 0 then match l.drop a.toNat with | [] => ⟨0, 0, 0, []⟩ | _ :: r => ⟨a, 1 + (inner r).2.2, ((inner r).2.1.headD 0).toNat, (inner r).2.1.drop 9⟩ else ⟨0, 0, 0, []⟩

theorem rdN_split {k n : Nat} {r : List UInt8} (h : (rdN k r).1 = 0) : rdN (k + n) r = ((rdN n (r.drop (rdN k r).2.2)).1, (rdN k r).2.1 ++ (rdN n (r.drop (rdN k r).2.2)).2.1, (rdN k r).2.2 + (rdN n (r.drop (rdN k r).2.2)).2.2) := by
 rw [rdN_add, if_pos h]
theorem rdN_len {k : Nat} {r : List UInt8} (h : (rdN k r).1 = 0) : (rdN k r).2.1.length = k := (rdN_veil k h).1
theorem rdN_used {k : Nat} {r : List UInt8} (h : (rdN k r).1 = 0) : (rdN k r).2.2 ≤ r.length := by
 obtain ⟨_, h2, h3⟩ := rdN_veil k h
 have := congrArg List.length h2
 rw [List.length_append, List.length_drop] at this
 omega
theorem atF_zero {l : List UInt8} {a : Int} (h : atE l a ≠ 0) : atF l a = ⟨0, 0, 0, []⟩ := by unfold atF; rw [if_neg h]
end Go.Proofs.YtcleakjjefmmbaaGreat.Frm
