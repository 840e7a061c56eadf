/- The shelf's contracts at this seat: maps.Clone of the users. -/
import Derived.Shelf.SlMaps.Clone
import Derived.Test.YtklbemkafdccgaaGreatProg
namespace Go.Proofs
open Go.Shelf
def Tryz.cloneUs_ren : Go.Shelf.Ren := ⟨fun | 5 => 57 | 7 => 111 | n => n, fun | 23 => 81 | 25 => 9 | 3 => 42 | 4 => 4 | 20 => 20 | n => n, fun | n => n⟩
theorem Tryz.cloneUs : Go.Proofs.SlLaysW.n5 Tryz.prog Tryz.cloneUs_ren := {
 mixed := by kernel_rfl
 f5 := ⟨Tryz.f57.name, by decide, Tryz.func57.trans (congrArg some (by kernel_rfl))⟩
 f7 := Tryz.func111.trans (congrArg some (by kernel_rfl))
 t4 := Tryz.underlying4
 a4 := Tryz.isAgg4
 z4 := Tryz.sizeOf4
 v4 := Tryz.zeroValue4
 t20 := Tryz.underlying20
 a20 := Tryz.isAgg20
 z20 := Tryz.sizeOf20
 v20 := Tryz.zeroValue20
 t23 := Tryz.underlying81
 a23 := Tryz.isAgg81
 z23 := Tryz.sizeOf81
 v23 := Tryz.zeroValue81 }
end Go.Proofs
