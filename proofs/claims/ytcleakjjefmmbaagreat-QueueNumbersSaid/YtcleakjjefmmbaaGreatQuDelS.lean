/- The shelf's contract at this seat: slices.DeleteFunc at strings. -/
import Derived.Shelf.SlicesE.DeleteFunc
import Derived.Test.YtcleakjjefmmbaaGreatProg
namespace Go.Proofs
open Go.Shelf
def Tryz.delStr_ren : Go.Shelf.Ren := ⟨fun | 10 => 39 | 6 => 84 | n => n, fun | 22 => 78 | 23 => 9 | 25 => 91 | 3 => 3 | 4 => 4 | 0 => 0 | n => n, fun | n => n⟩
theorem Tryz.delStr : Go.Proofs.SlLaysH.n10 Tryz.prog Tryz.delStr_ren := {
 mixed := by kernel_rfl
 f6 := ⟨Tryz.f84.name, by decide, Tryz.func84.trans (congrArg some (by kernel_rfl))⟩
 f10 := ⟨Tryz.f39.name, by decide, Tryz.func39.trans (congrArg some (by kernel_rfl))⟩
 t0 := Tryz.underlying0
 a0 := Tryz.isAgg0
 z0 := Tryz.sizeOf0
 v0 := Tryz.zeroValue0
 t3 := Tryz.underlying3
 a3 := Tryz.isAgg3
 z3 := Tryz.sizeOf3
 v3 := Tryz.zeroValue3
 t4 := Tryz.underlying4
 a4 := Tryz.isAgg4
 z4 := Tryz.sizeOf4
 v4 := Tryz.zeroValue4
 t22 := Tryz.underlying78
 a22 := Tryz.isAgg78
 z22 := Tryz.sizeOf78
 v22 := Tryz.zeroValue78
 a23 := Tryz.isAgg9
 z23 := Tryz.sizeOf9
 t25 := Tryz.underlying91
 a25 := Tryz.isAgg91
 z25 := Tryz.sizeOf91
 v25 := Tryz.zeroValue91 }
end Go.Proofs
