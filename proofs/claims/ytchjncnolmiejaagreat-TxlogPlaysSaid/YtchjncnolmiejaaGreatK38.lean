/- Several texts in one: SfNames, SfWaits. -/
import Derived.Test.YtchjncnolmiejaaGreatK31
import Derived.Test.YtchjncnolmiejaaGreatSfShelf
import Derived.Test.YtchjncnolmiejaaGreatK36
/- vdisk: Names, rising; how many turns and writes wait. -/
namespace Go.Proofs.YtchjncnolmiejaaGreat
open Go.RowKit Go.Sort Go.Shelf
namespace Vd
open Go.Maps
open Mbx (intD intElem intElem_inv)
/-- the names, as Go's strings -/
def nameV (l : Nms) : List Value := l.map fun p => Value.string (bstr p.1)
def namesD (d : Dsk) : Nms := if d.off then [] else d.seen
def NamesDid (W : World) (d : Dsk) (e : Ending) (w' : World) : Prop := ∃ v, e = .returned v ∧ Own w' W.heap.size 9 v (nameV (namesD d)) ∧ Keeps W w'
def waitsD (d : Dsk) : Nat × Nat := if d.off then (0, 0) else (d.moves.length, writesD d)
end Vd
end Go.Proofs.YtchjncnolmiejaaGreat

/- vdisk: how many turns and writes wait. -/
namespace Go.Proofs.YtchjncnolmiejaaGreat
open Go.RowKit
namespace Vd
open Go.Maps
def WaitsDid (W : World) (d : Dsk) (e : Ending) (w' : World) : Prop := e = .returned (.tuple #[.int .i64 ((waitsD d).1 : Int), .int .i64 ((waitsD d).2 : Int)]) ∧ Keeps W w'
/-- the writes of the first known nodes -/
def sumTo (d : Dsk) (j : Nat) : Nat := (((knownL d).take j).map fun i => (nodD d i).pats.length).sum
end Vd
end Go.Proofs.YtchjncnolmiejaaGreat
