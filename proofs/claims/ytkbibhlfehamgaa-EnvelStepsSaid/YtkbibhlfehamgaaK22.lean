/- Several texts in one: TxRefBytes, TxBegin. -/
import Derived.Test.YtkbibhlfehamgaaK20
import Derived.Test.YtkbibhlfehamgaaFrameRef
import Derived.Test.YtkbibhlfehamgaaK14
import Derived.Test.YtkbibhlfehamgaaK17
/- The document's bytes of a transaction. -/
namespace Go.Proofs.Ytkbibhlfehamgaa
open Go.RowKit
namespace Txl
open Oct Frm
end Txl
end Go.Proofs.Ytkbibhlfehamgaa

/- txlog.begin, commit. -/
namespace Go.Proofs.Ytkbibhlfehamgaa
open Go.RowKit
namespace Txl
open Oct Frm
def numP (l : List UInt8) : Nat := if 8 ≤ l.length then Oct.valOf (l.take 8) else 0
def cntP (l : List UInt8) : Nat := if 10 ≤ l.length then Oct.valOf ((l.drop 8).take 2) else 0
def beginB (n : Nat) (f : Fr1) : Bool := decide (f.kind = 32) && decide (f.pay.length = 10) && decide (numP f.pay = n) && decide (cntP f.pay ≤ 1000)
def commitB (n : Nat) (f : Fr1) : Bool := decide (numP f.pay = n) && decide (f.pay.length = 8) && decide (f.kind = 34)
theorem u8 (l : List UInt8) : uE l.length 0 0 8 = (if 8 ≤ l.length then 0 else 2) ∧ uA l.length 0 0 8 = (if 8 ≤ l.length then 8 else 0) ∧ uV l 0 0 8 = numP l := by
 have hE : uE l.length 0 0 8 = if 8 ≤ l.length then 0 else 2 := by
  unfold uE
  rw [if_neg (by simp), if_neg (by simp [okk])]
  by_cases h : 8 ≤ l.length
  ·rw [if_neg (by omega), if_pos h]
  ·rw [if_pos (by omega), if_neg h]
 refine ⟨hE, ?_, ?_⟩
 ·unfold uA
  rw [hE]
  split <;> simp
 ·unfold uV numP
  rw [hE]
  by_cases h : 8 ≤ l.length
  ·rw [if_pos h, if_pos h, if_pos rfl]
   unfold getV
   rw [if_pos (by simp [getB, okk]; omega)]
   rfl
  ·rw [if_neg h, if_neg h, if_neg (by decide)]
def BeginDid (W : World) (n : Nat) (f : Fr1) (e : Ending) (w' : World) : Prop := e = .returned (.tuple #[.int .i64 (cntP f.pay : Int), .bool (beginB n f)]) ∧ Keeps W w'
def CommitDid (W : World) (n : Nat) (f : Fr1) (e : Ending) (w' : World) : Prop := e = .returned (.bool (commitB n f)) ∧ Keeps W w'
end Txl
end Go.Proofs.Ytkbibhlfehamgaa
