/- Several texts in one: FrameBackPlain, FrameRefAtPlain, FrameCutPlain. -/
import Derived.Test.YtchjncnolmiejaaGreatFrameRowPlain
import Derived.Test.YtchjncnolmiejaaGreatK08
/- What was wrapped is read: plain. No program. -/
namespace Go.Proofs.YtchjncnolmiejaaGreat.Frm
open Oct

end Go.Proofs.YtchjncnolmiejaaGreat.Frm

/- The reference's At: plain. No program. -/
namespace Go.Proofs.YtchjncnolmiejaaGreat.Frm
open Oct

/-- the answer of the reference's read -/
def rpC (x : Int × UInt8 × Nat) : Int := if x.1 = 0 then x.2.1.toNat else 0
def rpN (a : Nat) (x : Int × UInt8 × Nat) : Int := if x.1 = 0 then (a : Int) + x.2.2 else 0
end Go.Proofs.YtchjncnolmiejaaGreat.Frm
namespace Go.Proofs.YtchjncnolmiejaaGreat.Frm
open Oct
/-- what is to be read, as the reference counts it -/
def ndI (o : List UInt8) : Nat := if o.length ≤ 5 then 9 else 9 + headN o
end Go.Proofs.YtchjncnolmiejaaGreat.Frm

/- Frames one behind the other, cut off: plain. No program. -/
namespace Go.Proofs.YtchjncnolmiejaaGreat.Frm
open Oct

/-- frames one behind the other -/
def cat (F : List (Nat × List UInt8)) : List UInt8 := F.flatMap fun x => wrapL x.1 x.2
def catOk (F : List (Nat × List UInt8)) : Prop := ∀ x ∈ F, x.1 ≤ 255 ∧ x.2.length ≤ 65536
/-- how many are whole within so many bytes -/
def whole : List (Nat × List UInt8) → Nat → Nat
  | [], _ => 0
  | x :: F, c => if (wrapL x.1 x.2).length ≤ c then whole F (c - (wrapL x.1 x.2).length) + 1 else 0
/-- where each ends -/
def endAt (F : List (Nat × List UInt8)) (i : Nat) : Nat := (cat (F.take (i + 1))).length
end Go.Proofs.YtchjncnolmiejaaGreat.Frm
