/- Several texts in one: CrcRow, Crc, CrcMore. -/
import Derived.Test.YtchjncnolmiejaaGreatK00
import Derived.Test.YtchjncnolmiejaaGreatRows
/- The functions of package crc, and the reference's, compute the plain sums. -/
namespace Go.Proofs.YtchjncnolmiejaaGreat
open Go.RowKit
namespace Crc

def tabV : Array Value := #[.int .u32 0, .int .u32 498536548, .int .u32 997073096, .int .u32 651767980, .int .u32 1994146192, .int .u32 1802195444, .int .u32 1303535960, .int .u32 1342533948, .int .u32 3988292384, .int .u32 4027552580, .int .u32 3604390888, .int .u32 3412177804, .int .u32 2607071920, .int .u32 2262029012, .int .u32 2685067896, .int .u32 3183342108]

end Crc
end Go.Proofs.YtchjncnolmiejaaGreat

/- The functions of package crc, and the reference's, compute the plain sums. -/
namespace Go.Proofs.YtchjncnolmiejaaGreat
open Go.RowKit
namespace Crc

end Crc
end Go.Proofs.YtchjncnolmiejaaGreat

/- crc.More, Of, Same and the reference's Of, and what the document tells. -/
namespace Go.Proofs.YtchjncnolmiejaaGreat
open Go.RowKit
namespace Crc

end Crc
end Go.Proofs.YtchjncnolmiejaaGreat
