/- The shelf's contracts at this seat: maps.Clone of a map of names. -/
import Derived.Shelf.SlMaps.Clone
import Derived.Test.YtchjncnolmiejaaProg
namespace Go.Proofs
open Go.Shelf
def Try.cloneNames_ren : Go.Shelf.Ren := ⟨fun | 5 => 44 | 7 => 107 | n => n, fun | 23 => 84 | 25 => 9 | 3 => 3 | 4 => 4 | 20 => 20 | n => n, fun | n => n⟩
theorem Try.cloneNames : Go.Proofs.SlLaysW.n5 Try.prog Try.cloneNames_ren := {
  mixed := by kernel_rfl
  f5 := ⟨Try.f44.name, by decide, Try.func44.trans (congrArg some (by kernel_rfl))⟩
  f7 := Try.func107.trans (congrArg some (by kernel_rfl))
  t4 := Try.underlying4
  a4 := Try.isAgg4
  z4 := Try.sizeOf4
  v4 := Try.zeroValue4
  t20 := Try.underlying20
  a20 := Try.isAgg20
  z20 := Try.sizeOf20
  v20 := Try.zeroValue20
  t23 := Try.underlying84
  a23 := Try.isAgg84
  z23 := Try.sizeOf84
  v23 := Try.zeroValue84 }
end Go.Proofs
