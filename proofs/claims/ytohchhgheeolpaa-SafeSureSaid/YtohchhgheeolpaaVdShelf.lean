/- The shelf's contracts at this seat: maps.Clone of a map of names. -/
import Derived.Shelf.SlMaps.Clone
import Derived.Test.YtohchhgheeolpaaProg
namespace Go.Proofs
open Go.Shelf
def Try.cloneNames_ren : Go.Shelf.Ren := ⟨fun | 5 => 66 | 7 => 150 | n => n, fun | 23 => 107 | 25 => 9 | 3 => 3 | 4 => 4 | 20 => 20 | n => n, fun | n => n⟩
theorem Try.cloneNames : Go.Proofs.SlLaysW.n5 Try.prog Try.cloneNames_ren := {
  mixed := by kernel_rfl
  f5 := ⟨Try.f66.name, by decide, Try.func66.trans (congrArg some (by kernel_rfl))⟩
  f7 := Try.func150.trans (congrArg some (by kernel_rfl))
  t4 := Try.underlying4
  a4 := Try.isAgg4
  z4 := Try.sizeOf4
  v4 := Try.zeroValue4
  t20 := Try.underlying20
  a20 := Try.isAgg20
  z20 := Try.sizeOf20
  v20 := Try.zeroValue20
  t23 := Try.underlying107
  a23 := Try.isAgg107
  z23 := Try.sizeOf107
  v23 := Try.zeroValue107 }
end Go.Proofs
