/- The reference of Wrap. -/
import Derived.Test.YtklbemkafdccgaaGreatK12
import Derived.Deep.Draws
import Derived.Deep.RegionHeld3
namespace Go.Proofs.YtklbemkafdccgaaGreat
open Go.RowKit
namespace Frm
open Oct

theorem bstr_append (a b : List UInt8) : bstr a ++ bstr b = bstr (a ++ b) := by
 apply ByteArray.ext
 apply Array.ext'
 simp [bstr]

end Frm
end Go.Proofs.YtklbemkafdccgaaGreat
