/- Several texts in one: FrameRows, TxBytes. -/
import Derived.Test.YtkbibhlfehamgaaK17
import Derived.Test.YtkbibhlfehamgaaK07
import Derived.Test.YtkbibhlfehamgaaK06
import Derived.Test.YtkbibhlfehamgaaLawKit
import Derived.Test.YtkbibhlfehamgaaDrawn
import Derived.Test.YtkbibhlfehamgaaK15
/- Lists of payloads: how they lie in memory; Bulk, and the law's rows. -/
namespace Go.Proofs.Ytkbibhlfehamgaa
open Go.RowKit
namespace Frm
open Oct

/-- a payload in memory: its slice, its bytes -/
def payC (x : Value × List UInt8) : List Value := [x.1]
def payOk (w : World) (x : Value × List UInt8) : Prop := Row w x.1 (x.2.map u8v)
theorem c5 : Try.prog.cellsOf 5 = 1 := by kernel_rfl
def BulkDid (l : List (Value × List UInt8)) (w : World) (e : Ending) (w' : World) : Prop :=
 ∃ n : Nat, e = .returned (.int .i64 (n : Int)) ∧ (n ≤ 1000 → ∀ x ∈ l, x.2.length ≤ 1000) ∧ w = w'

/-- kinds and payloads -/
def zipF (ks : List UInt8) (l : List (Value × List UInt8)) : List (Nat × List UInt8) := List.zipWith (fun k x => (k.toNat, x.2)) ks l
def endsL (F : List (Nat × List UInt8)) (n : Nat) : List Value := (List.range n).map fun i => .int .i64 (endAt F i : Nat)
def RowsDid (F : List (Nat × List UInt8)) (n : Nat) (W : World) (e : Ending) (w' : World) : Prop :=
 ∃ va ve, e = .returned (.tuple #[va, ve]) ∧ Own w' W.heap.size 5 va ((cat F).map u8v) ∧ Own w' W.heap.size 3 ve (endsL F n) ∧ Keeps W w'
end Frm
end Go.Proofs.Ytkbibhlfehamgaa

/- txlog.numbers, txlog.Bytes. -/
namespace Go.Proofs.Ytkbibhlfehamgaa
open Go.RowKit
namespace Txl
open Oct Frm
end Txl
end Go.Proofs.Ytkbibhlfehamgaa
