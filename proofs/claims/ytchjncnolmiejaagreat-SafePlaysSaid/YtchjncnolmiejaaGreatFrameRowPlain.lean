/- Row and Scan: plain. No program. -/
import Derived.Test.YtchjncnolmiejaaGreatFrameAtPlain
namespace Go.Proofs.YtchjncnolmiejaaGreat.Frm
open Oct

def rowN (l : List UInt8) : Nat → Nat → List Fr1 × Nat × Int
  | 0, u => ([], u, 0)
  | k + 1, u => if u < l.length then (if atE l u = 0 then (atF l u :: (rowN l k (u + (atF l u).len.toNat)).1, (rowN l k (u + (atF l u).len.toNat)).2) else ([], u, atE l u)) else ([], u, 0)
def rowR (l : List UInt8) : List Fr1 × Nat × Int := rowN l l.length 0
structure Gap1 where
  fro : Int
  to : Int
/-- the frames and the gaps from a place on; the open gap began at g -/
def scanN (l : List UInt8) : Nat → Nat → Nat → List Fr1 × List Gap1
  | 0, g, u => ([], if g < u then [⟨g, u⟩] else [])
  | k + 1, g, u => if u < l.length then
      (if atE l u = 0 then (atF l u :: (scanN l k (u + (atF l u).len.toNat) (u + (atF l u).len.toNat)).1, (if g < u then [⟨g, u⟩] else []) ++ (scanN l k (u + (atF l u).len.toNat) (u + (atF l u).len.toNat)).2) else scanN l k g (u + 1))
    else ([], if g < u then [⟨g, u⟩] else [])
def scanR (l : List UInt8) : List Fr1 × List Gap1 := scanN l l.length 0 0
end Go.Proofs.YtchjncnolmiejaaGreat.Frm
