/- The law FrameMost, walked. -/
import Derived.Test.YtchjncnolmiejaaGreatFrameAwake
import Derived.Test.YtchjncnolmiejaaGreatK48
import Derived.Test.YtchjncnolmiejaaGreatK10
import Derived.Laws.OwnMore
namespace Go.Proofs.YtchjncnolmiejaaGreat
open Go.RowKit
namespace Frm
open Oct

end Frm
end Go.Proofs.YtchjncnolmiejaaGreat
