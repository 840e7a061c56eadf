/- The shelf's contracts at this seat: maps.Clone of the users. -/
import Derived.Shelf.SlMaps.Clone
import Derived.Test.YtpndpooddehbbaaGreatProg
namespace Go.Proofs
open Go.Shelf
def Tryz.cloneUs_ren : Go.Shelf.Ren := ⟨fun | 5 => 84 | 7 => 130 | n => n, fun | 23 => 94 | 25 => 9 | 3 => 35 | 4 => 4 | 20 => 20 | n => n, fun | n => n⟩
end Go.Proofs
