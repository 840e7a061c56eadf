/- Several texts in one: FrameRows, TxBytes. -/
import Derived.Test.YtkbibhlfehamgaaK17
import Derived.Test.YtkbibhlfehamgaaK07
import Derived.Test.YtkbibhlfehamgaaK06
import Derived.Test.YtkbibhlfehamgaaLawKit
import Derived.Test.YtkbibhlfehamgaaDrawn
import Derived.Test.YtkbibhlfehamgaaK15
/- Lists of payloads: how they lie in memory; Bulk, and the law's rows. -/
namespace Go.Proofs.Ytkbibhlfehamgaa
open Go.RowKit
namespace Frm
open Oct

/-- a payload in memory: its slice, its bytes -/
def payC (x : Value × List UInt8) : List Value := [x.1]
def payOk (w : World) (x : Value × List UInt8) : Prop := Row w x.1 (x.2.map u8v)
theorem c5 : Try.prog.cellsOf 5 = 1 := by kernel_rfl
theorem opens_pay {H : Type} {enc : TypeId × Value → H} {w : World} {base : Nat} {sp : Nat → Bool} {held : Bool} : Opens enc Try.prog w base sp held 22 payC (payOk w) := by
 have h := opens_slice (enc := enc) (w := w) (base := base) (sp := sp) (held := held) Try.underlying22 c5 (by decide) (fun _ => rfl) (opens_int (enc := enc) (P := Try.prog) (w := w) (base := base) (sp := sp) (held := held) Try.underlying5)
 refine opens_map h (fun x => (x.1, x.2.map fun n => UInt8.ofNat n.toNat)) (fun x _ => rfl) ?_
 rintro ⟨v, zs⟩ ⟨hr, hw⟩
 have e1 : zs.flatMap (fun a : Int => [Value.int .u8 a]) = zs.map (.int .u8) := by
  clear hr hw
  induction zs with
  | nil => rfl
  | cons z zs ih => simp only [List.flatMap_cons, List.map_cons, ih]; rfl
 have : (zs.map fun n => UInt8.ofNat n.toNat).map u8v = zs.map (.int .u8) := by
  rw [List.map_map]
  refine List.map_congr_left fun n hn => ?_
  have hb : 0 ≤ n ∧ n ≤ 255 := by simpa [Lit.wf, IntKind.min, IntKind.max, IntKind.signed, IntKind.bits] using hw n hn
  simp [u8v]
  omega
 unfold payOk
 simp only
 rw [this, ← e1]
 exact hr.row

def BulkDid (l : List (Value × List UInt8)) (w : World) (e : Ending) (w' : World) : Prop :=
 ∃ n : Nat, e = .returned (.int .i64 (n : Int)) ∧ (n ≤ 1000 → ∀ x ∈ l, x.2.length ≤ 1000) ∧ w = w'

/-- kinds and payloads -/
def zipF (ks : List UInt8) (l : List (Value × List UInt8)) : List (Nat × List UInt8) := List.zipWith (fun k x => (k.toNat, x.2)) ks l
def endsL (F : List (Nat × List UInt8)) (n : Nat) : List Value := (List.range n).map fun i => .int .i64 (endAt F i : Nat)
def RowsDid (F : List (Nat × List UInt8)) (n : Nat) (W : World) (e : Ending) (w' : World) : Prop :=
 ∃ va ve, e = .returned (.tuple #[va, ve]) ∧ Own w' W.heap.size 5 va ((cat F).map u8v) ∧ Own w' W.heap.size 3 ve (endsL F n) ∧ Keeps W w'
end Frm
end Go.Proofs.Ytkbibhlfehamgaa

/- txlog.numbers, txlog.Bytes. -/
namespace Go.Proofs.Ytkbibhlfehamgaa
open Go.RowKit
namespace Txl
open Oct Frm
end Txl
end Go.Proofs.Ytkbibhlfehamgaa
