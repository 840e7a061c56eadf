/- The shelf's contracts at this seat: maps.Clone of the users. -/
import Derived.Shelf.SlMaps.Clone
import Derived.Test.YtklbemkafdccgaaGreatProg
namespace Go.Proofs
open Go.Shelf
def Tryz.cloneUs_ren : Go.Shelf.Ren := ⟨fun | 5 => 57 | 7 => 111 | n => n, fun | 23 => 81 | 25 => 9 | 3 => 42 | 4 => 4 | 20 => 20 | n => n, fun | n => n⟩
end Go.Proofs
