/- The shelf's contracts at this seat: maps.Clone of a map of names. -/
import Derived.Shelf.SlMaps.Clone
import Derived.Test.YtchjncnolmiejaaGreatProg
namespace Go.Proofs
open Go.Shelf
def Tryz.cloneNames_ren : Go.Shelf.Ren := ⟨fun | 5 => 36 | 7 => 84 | n => n, fun | 23 => 76 | 25 => 9 | 3 => 3 | 4 => 4 | 20 => 20 | n => n, fun | n => n⟩
theorem Tryz.cloneNames : Go.Proofs.SlLaysW.n5 Tryz.prog Tryz.cloneNames_ren := {
 mixed := by kernel_rfl
 f5 := ⟨Tryz.f36.name, by decide, Tryz.func36.trans (congrArg some (by kernel_rfl))⟩
 f7 := Tryz.func84.trans (congrArg some (by kernel_rfl))
 t4 := Tryz.underlying4
 a4 := Tryz.isAgg4
 z4 := Tryz.sizeOf4
 v4 := Tryz.zeroValue4
 t20 := Tryz.underlying20
 a20 := Tryz.isAgg20
 z20 := Tryz.sizeOf20
 v20 := Tryz.zeroValue20
 t23 := Tryz.underlying76
 a23 := Tryz.isAgg76
 z23 := Tryz.sizeOf76
 v23 := Tryz.zeroValue76 }
end Go.Proofs
