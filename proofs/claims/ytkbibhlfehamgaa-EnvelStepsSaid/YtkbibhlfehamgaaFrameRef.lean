/- The reference of Wrap. -/
import Derived.Test.YtkbibhlfehamgaaK17
import Derived.Deep.Draws
import Derived.Deep.RegionHeld3
namespace Go.Proofs.Ytkbibhlfehamgaa
open Go.RowKit
namespace Frm
open Oct

end Frm
end Go.Proofs.Ytkbibhlfehamgaa
