/- Several texts in one: OctetRaw, OctetText, OctetAwake, OctetLaws. -/
import Derived.Test.YtchjncnolmiejaaGreatK06
import Derived.StillTailTactics
/- The source's Raw and Text. -/
namespace Go.Proofs.YtchjncnolmiejaaGreat
open Go.RowKit
namespace Oct

def rE (n a : Nat) (er k : Int) : Int := if er ≠ 0 then er else if k < 0 then 1 else if (n : Int) - a < k then 2 else 0
def rA (n a : Nat) (er k : Int) : Nat := if rE n a er k = 0 then a + k.toNat else a
def rL (l : List UInt8) (a : Nat) (er k : Int) : List UInt8 := if rE l.length a er k = 0 then (l.drop a).take k.toNat else []

/-- the call gives bytes of its own, and changes the source's block alone -/
def RawDid (W : World) (g : Nat) (v : Value) (l : List UInt8) (a : Nat) (er : Int) (m : List UInt8) (e : Ending) (w' : World) : Prop :=
 ∃ b, e = .returned b ∧ Own w' W.heap.size 5 b (m.map u8v) ∧ SrcAt w' g v l a er ∧ Mods (· = g) W w'

end Oct
end Go.Proofs.YtchjncnolmiejaaGreat

/- The source's Text. -/
namespace Go.Proofs.YtchjncnolmiejaaGreat
open Go.RowKit
namespace Oct

def tE (l : List UInt8) (a : Nat) (er most : Int) : Int :=
 if uE l.length a er 4 ≠ 0 then uE l.length a er 4 else if most < 0 ∨ most < (getV l a 4 : Int) then 4 else if (l.length : Int) - a - 4 < (getV l a 4 : Int) then 2 else 0
def tA (l : List UInt8) (a : Nat) (er most : Int) : Nat := if tE l a er most = 0 then a + 4 + getV l a 4 else a
def tL (l : List UInt8) (a : Nat) (er most : Int) : List UInt8 := if tE l a er most = 0 then (l.drop (a + 4)).take (getV l a 4) else []

theorem getV4_lt {l : List UInt8} {a : Int} : getV l a 4 < 4294967296 := by
 unfold getV
 split
 ·have := valOf_lt' (l := (l.drop a.toNat).take (4 : Int).toNat) (j := 4) (by rw [List.length_take]; exact Nat.min_le_left _ _)
  simpa using this
 ·omega

end Oct
end Go.Proofs.YtchjncnolmiejaaGreat

/- What the document tells of octet: awake. -/
namespace Go.Proofs.YtchjncnolmiejaaGreat
open Go.RowKit
namespace Oct

end Oct
end Go.Proofs.YtchjncnolmiejaaGreat

/- The laws OctetNumbers and OctetTurns, walked. -/
namespace Go.Proofs.YtchjncnolmiejaaGreat
open Go.RowKit

namespace Oct

end Oct
end Go.Proofs.YtchjncnolmiejaaGreat
