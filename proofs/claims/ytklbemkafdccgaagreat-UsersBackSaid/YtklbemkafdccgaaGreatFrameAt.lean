/- frame.At. -/
import Derived.Test.YtklbemkafdccgaaGreatK19
import Derived.Test.YtklbemkafdccgaaGreatFrameAtPlain
import Derived.Test.YtklbemkafdccgaaGreatK02
import Derived.Test.YtklbemkafdccgaaGreatK03
import Derived.StillTailTactics
namespace Go.Proofs.YtklbemkafdccgaaGreat
open Go.RowKit
namespace Frm
open Oct

def frV (f : Fr1) (pv : Value) : Value := .agg #[.int .i64 f.at', .int .i64 f.len, .int .i64 f.kind, pv]
/-- a frame and an error; the payload is new -/
def AtDid (W : World) (f : Fr1) (n : Int) (e : Ending) (w' : World) : Prop :=
 ∃ pv, e = .returned (.tuple #[frV f pv, .int .i64 n]) ∧ Piece w' W.heap.size 5 pv (f.pay.map u8v) ∧ Keeps W w'

def F0 : Fr1 := ⟨0, 0, 0, []⟩
end Frm
end Go.Proofs.YtklbemkafdccgaaGreat
