/- The shelf's contracts at this seat: maps.Clone of the users. -/
import Derived.Shelf.SlMaps.Clone
import Derived.Test.YtojmbeibhfjmkaaGreatProg
namespace Go.Proofs
open Go.Shelf
def Tryz.cloneUs_ren : Go.Shelf.Ren := ⟨fun | 5 => 90 | 7 => 183 | n => n, fun | 23 => 126 | 25 => 9 | 3 => 53 | 4 => 4 | 20 => 20 | n => n, fun | n => n⟩
end Go.Proofs
