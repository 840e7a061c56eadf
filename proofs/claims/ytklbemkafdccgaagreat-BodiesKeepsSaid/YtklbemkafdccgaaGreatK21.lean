/- Several texts in one: UsShelf, UsVals, UsColl, BdShelf. -/
import Derived.Shelf.SlIter.Nil
import Derived.Shelf.SlIterI.Nil
import Derived.Shelf.SortM.Plain
import Derived.Shelf.SortM.SortNone
import Derived.Test.YtklbemkafdccgaaGreatProg
import Derived.Test.YtklbemkafdccgaaGreatUsNew
import Derived.RangeFuncStops
import Derived.RangeFuncLeaves
/- The shelf's contracts at this seat: maps.Keys of the aliases, slices.Sorted, slices.Sort at string keys. -/
namespace Go.Proofs
open Go.Shelf
def Tryz.keysAl_ren : Go.Shelf.Ren := ⟨fun | 7 => 104 | 10 => 161 | n => n, fun | 23 => 82 | 26 => 9 | 3 => 108 | 28 => 175 | 0 => 0 | 27 => 174 | 33 => 27 | 4 => 4 | n => n, fun | n => n⟩
def Tryz.sortedStr2_ren : Go.Shelf.Ren := ⟨fun | 6 => 103 | 8 => 159 | 9 => 160 | 11 => 198 | 13 => 169 | 12 => 199 | 23 => 210 | 24 => 211 | 14 => 231 | 15 => 232 | 16 => 233 | 17 => 234 | 18 => 235 | 19 => 236 | 20 => 237 | 21 => 238 | 22 => 239 | 25 => 252 | 26 => 241 | 27 => 242 | 28 => 253 | 29 => 254 | 30 => 255 | 31 => 259 | n => n, fun | 26 => 9 | 28 => 175 | 24 => 37 | 0 => 0 | 3 => 3 | 37 => 183 | 48 => 196 | 50 => 105 | 4 => 4 | 40 => 260 | 39 => 259 | 45 => 125 | 5 => 5 | 9 => 9 | 51 => 285 | 55 => 245 | 57 => 302 | 58 => 303 | 33 => 27 | n => n, fun | n => n⟩
def Tryz.sortStr2_ren : Go.Shelf.Ren := ⟨fun | 6 => 160 | 8 => 169 | 9 => 199 | 19 => 210 | 20 => 211 | 21 => 231 | 22 => 232 | 23 => 233 | 24 => 234 | 25 => 235 | 26 => 236 | 27 => 237 | 28 => 238 | 29 => 239 | 36 => 252 | 31 => 241 | 32 => 242 | 37 => 253 | 38 => 254 | 39 => 255 | 41 => 259 | n => n, fun | 27 => 37 | 29 => 9 | 3 => 3 | 32 => 183 | 26 => 37 | 0 => 0 | 44 => 196 | 46 => 105 | 4 => 4 | 36 => 260 | 35 => 259 | 41 => 125 | 5 => 5 | 9 => 9 | 53 => 285 | 57 => 245 | 63 => 302 | 64 => 303 | n => n, fun | n => n⟩
def Tryz.keysInt2_ren : Go.Shelf.Ren := ⟨fun | 7 => 70 | 10 => 121 | n => n, fun | 23 => 118 | 26 => 3 | 3 => 3 | 28 => 123 | 0 => 0 | 27 => 122 | 33 => 190 | 4 => 4 | n => n, fun | n => n⟩
def Tryz.sortedInt2_ren : Go.Shelf.Ren := ⟨fun | 6 => 69 | 8 => 119 | 9 => 120 | 11 => 167 | 13 => 169 | 12 => 168 | 23 => 210 | 24 => 211 | 14 => 201 | 15 => 202 | 16 => 203 | 17 => 204 | 18 => 205 | 19 => 206 | 20 => 207 | 21 => 208 | 22 => 209 | 25 => 240 | 26 => 241 | 27 => 242 | 28 => 243 | 29 => 244 | 30 => 245 | 31 => 256 | n => n, fun | 26 => 3 | 28 => 123 | 24 => 57 | 0 => 0 | 3 => 3 | 37 => 183 | 48 => 196 | 50 => 105 | 4 => 4 | 40 => 260 | 39 => 259 | 45 => 125 | 5 => 5 | 9 => 9 | 51 => 285 | 55 => 245 | 57 => 302 | 58 => 303 | 33 => 190 | n => n, fun | n => n⟩
def Tryz.sortInt2_ren : Go.Shelf.Ren := ⟨fun | 5 => 120 | 8 => 169 | 7 => 168 | 19 => 210 | 20 => 211 | 10 => 201 | 11 => 202 | 12 => 203 | 13 => 204 | 14 => 205 | 15 => 206 | 16 => 207 | 17 => 208 | 18 => 209 | 30 => 240 | 31 => 241 | 32 => 242 | 33 => 243 | 34 => 244 | 35 => 245 | 40 => 256 | n => n, fun | 23 => 57 | 25 => 3 | 3 => 3 | 32 => 183 | 22 => 57 | 0 => 0 | 44 => 196 | 46 => 105 | 4 => 4 | 36 => 260 | 35 => 259 | 41 => 125 | 5 => 5 | 9 => 9 | 53 => 285 | 57 => 245 | 63 => 302 | 64 => 303 | n => n, fun | n => n⟩
end Go.Proofs

/- users: maps.Values of the users, and its iterator, for every loop body. -/
namespace Go.Proofs.YtklbemkafdccgaaGreat
open Go.RowKit Go.Maps Go.Sort Go.Shelf
namespace Usr
open Adr (Str)
open Mp
/-- the pairs that have come: each one's second is the map's value at its first -/
def ValAtU (D0 : DataW Unit) (p : Str × UsrP) : Prop := ∀ zd, D0.atKey (.string p.1) zd = usrD p.2
def AllU (D0 : DataW Unit) (ps : List (Str × UsrP)) : Prop := (ps.map (·.1)).Perm (strKeys D0) ∧ ∀ p ∈ ps, ValAtU D0 p
def PartU (D0 : DataW Unit) (ps : List (Str × UsrP)) : Prop := (ps.map (·.1)).Nodup ∧ (∀ x ∈ ps.map (·.1), Maps.has D0 (.string x) = true) ∧ ∀ p ∈ ps, ValAtU D0 p
/-! ### what has come, as the table's users -/
end Usr
end Go.Proofs.YtklbemkafdccgaaGreat

/- users: slices.AppendSeq, slices.Collect of users, against whatever iterator. -/
namespace Go.Proofs.YtklbemkafdccgaaGreat
open Go.RowKit Go.Maps Go.Sort Go.Shelf
namespace Usr
open Adr (Str)
open Mp
/-- a part of a function's code, by its path; a range over a function: how its values are laid, its body -/
def at_ : List Bool → Code → Code
 | [], c => c
 |false :: p, .seq a _ => at_ p a
 |true :: p, .seq _ b => at_ p b
 |false :: p, .cond _ a _ => at_ p a
 |true :: p, .cond _ _ b => at_ p b
 |false :: p, .rangeFunc _ _ a _ => at_ p a
 |true :: p, .rangeFunc _ _ _ b => at_ p b
 | _ :: p, .block _ c => at_ p c
 | _ :: p, .loop c => at_ p c
 | _ :: _, c => c
def usC (u : UsrP) : List Value := [.int .i64 u.n, .string (bstr u.name), .int .i64 u.lb, .int .i64 u.lc]
/-- The loop's record: the temporaries as they stood at the entering: the slice boxed in block Bs; sv: the iterator's value. -/
def apRec (ac bd : Code) (fn : FuncId) (sv : Value) (Bs D : Nat) (st : LoopState) (pend : Option Code) : Loop :=
 {state := st, pending := pend, fn, tmps := #[.slice none 0 0, sv, .pointer (some ⟨Bs, 0, none⟩), undef, .slice none 0 0, undef, sv, undef, undef, undef, undef, undef, undef], params := #[7], assign := ac, body := bd, defers := D }
structure ApAt (ac bd : Code) (w0 : World) (fn : FuncId) (sv : Value) (Bs l D : Nat) (ss : List UsrP) (W : World) : Prop where
 box : ∃ v, W.heap[Bs]? = some (.cells #[v] 29 (0, 0)) ∧ W.ownsRow w0.heap.size 42 4 v ss.length (ss.flatMap usC)
 L : W.heap[l]? = some (.loop (apRec ac bd fn sv Bs D .ready none))
 K : W.heap[D]? = some (.deferred (some []))
 below : Below w0.heap.size w0 W
end Usr
end Go.Proofs.YtklbemkafdccgaaGreat

/- The shelf's contracts at this seat: maps.Keys of the bodies, slices.Sorted, slices.Sort at int keys. -/
namespace Go.Proofs
open Go.Shelf
def Tryz.keysBd_ren : Go.Shelf.Ren := ⟨fun | 7 => 85 | 10 => 145 | n => n, fun | 23 => 148 | 26 => 3 | 3 => 51 | 28 => 123 | 0 => 0 | 27 => 122 | 33 => 190 | 4 => 4 | n => n, fun | n => n⟩
theorem Tryz.keysBd : Go.Proofs.SlLaysZI.n7 Tryz.prog Tryz.keysBd_ren := {
 mixed := by kernel_rfl
 f7 := ⟨Tryz.f85.name, by decide, Tryz.func85.trans (congrArg some (by kernel_rfl))⟩
 f10 := ⟨Tryz.f145.name, by decide, Tryz.func145.trans (congrArg some (by kernel_rfl))⟩
 t0 := Tryz.underlying0
 a0 := Tryz.isAgg0
 z0 := Tryz.sizeOf0
 v0 := Tryz.zeroValue0
 t4 := Tryz.underlying4
 a4 := Tryz.isAgg4
 z4 := Tryz.sizeOf4
 v4 := Tryz.zeroValue4
 t23 := Tryz.underlying148
 a23 := Tryz.isAgg148
 z23 := Tryz.sizeOf148
 v23 := Tryz.zeroValue148
 t26 := Tryz.underlying3
 a26 := Tryz.isAgg3
 z26 := Tryz.sizeOf3
 v26 := Tryz.zeroValue3
 t27 := Tryz.underlying122
 a27 := Tryz.isAgg122
 z27 := Tryz.sizeOf122
 v27 := Tryz.zeroValue122
 t28 := Tryz.underlying123
 a28 := Tryz.isAgg123
 z28 := Tryz.sizeOf123
 v28 := Tryz.zeroValue123
 t33 := Tryz.underlying190
 a33 := Tryz.isAgg190
 z33 := Tryz.sizeOf190
 v33 := Tryz.zeroValue190 }
def Tryz.sortedBd_ren : Go.Shelf.Ren := ⟨fun | 6 => 69 | 8 => 119 | 9 => 120 | 11 => 167 | 13 => 169 | 12 => 168 | 23 => 210 | 24 => 211 | 14 => 201 | 15 => 202 | 16 => 203 | 17 => 204 | 18 => 205 | 19 => 206 | 20 => 207 | 21 => 208 | 22 => 209 | 25 => 240 | 26 => 241 | 27 => 242 | 28 => 243 | 29 => 244 | 30 => 245 | 31 => 256 | n => n, fun | 26 => 3 | 28 => 123 | 24 => 57 | 0 => 0 | 3 => 3 | 37 => 183 | 48 => 196 | 50 => 105 | 4 => 4 | 40 => 260 | 39 => 259 | 45 => 125 | 5 => 5 | 9 => 9 | 51 => 285 | 55 => 245 | 57 => 302 | 58 => 303 | 33 => 190 | n => n, fun | n => n⟩
theorem Tryz.sortedBd : Go.Proofs.SlLaysZI.n6 Tryz.prog Tryz.sortedBd_ren := {
 mixed := by kernel_rfl
 f6 := ⟨Tryz.f69.name, by decide, Tryz.func69.trans (congrArg some (by kernel_rfl))⟩
 f8 := ⟨Tryz.f119.name, by decide, Tryz.func119.trans (congrArg some (by kernel_rfl))⟩
 f11 := ⟨Tryz.f167.name, by decide, Tryz.func167.trans (congrArg some (by kernel_rfl))⟩
 t0 := Tryz.underlying0
 a0 := Tryz.isAgg0
 z0 := Tryz.sizeOf0
 v0 := Tryz.zeroValue0
 t24 := Tryz.underlying57
 a24 := Tryz.isAgg57
 z24 := Tryz.sizeOf57
 v24 := Tryz.zeroValue57
 t26 := Tryz.underlying3
 a26 := Tryz.isAgg3
 z26 := Tryz.sizeOf3
 v26 := Tryz.zeroValue3
 t28 := Tryz.underlying123
 a28 := Tryz.isAgg123
 z28 := Tryz.sizeOf123
 v28 := Tryz.zeroValue123
 i26 := by kernel_rfl }
def Tryz.sortBd_ren : Go.Shelf.Ren := ⟨fun | 5 => 120 | 8 => 169 | 7 => 168 | 19 => 210 | 20 => 211 | 10 => 201 | 11 => 202 | 12 => 203 | 13 => 204 | 14 => 205 | 15 => 206 | 16 => 207 | 17 => 208 | 18 => 209 | 30 => 240 | 31 => 241 | 32 => 242 | 33 => 243 | 34 => 244 | 35 => 245 | 40 => 256 | n => n, fun | 23 => 57 | 25 => 3 | 3 => 3 | 32 => 183 | 22 => 57 | 0 => 0 | 44 => 196 | 46 => 105 | 4 => 4 | 36 => 260 | 35 => 259 | 41 => 125 | 5 => 5 | 9 => 9 | 53 => 285 | 57 => 245 | 63 => 302 | 64 => 303 | n => n, fun | n => n⟩
theorem Tryz.sortBd : Go.Proofs.SlLaysM.n5 Tryz.prog Tryz.sortBd_ren := {
 mixed := by kernel_rfl
 f5 := ⟨Tryz.f120.name, by decide, Tryz.func120.trans (congrArg some (by kernel_rfl))⟩
 f7 := ⟨Tryz.f168.name, by decide, Tryz.func168.trans (congrArg some (by kernel_rfl))⟩
 f8 := Tryz.func169.trans (congrArg some (by kernel_rfl))
 f10 := ⟨Tryz.f201.name, by decide, Tryz.func201.trans (congrArg some (by kernel_rfl))⟩
 f11 := ⟨Tryz.f202.name, by decide, Tryz.func202.trans (congrArg some (by kernel_rfl))⟩
 f12 := ⟨Tryz.f203.name, by decide, Tryz.func203.trans (congrArg some (by kernel_rfl))⟩
 f13 := ⟨Tryz.f204.name, by decide, Tryz.func204.trans (congrArg some (by kernel_rfl))⟩
 f14 := ⟨Tryz.f205.name, by decide, Tryz.func205.trans (congrArg some (by kernel_rfl))⟩
 f15 := ⟨Tryz.f206.name, by decide, Tryz.func206.trans (congrArg some (by kernel_rfl))⟩
 f16 := ⟨Tryz.f207.name, by decide, Tryz.func207.trans (congrArg some (by kernel_rfl))⟩
 f17 := ⟨Tryz.f208.name, by decide, Tryz.func208.trans (congrArg some (by kernel_rfl))⟩
 f18 := ⟨Tryz.f209.name, by decide, Tryz.func209.trans (congrArg some (by kernel_rfl))⟩
 f19 := Tryz.func210.trans (congrArg some (by kernel_rfl))
 f20 := Tryz.func211.trans (congrArg some (by kernel_rfl))
 f30 := ⟨Tryz.f240.name, by decide, Tryz.func240.trans (congrArg some (by kernel_rfl))⟩
 f31 := Tryz.func241.trans (congrArg some (by kernel_rfl))
 f32 := Tryz.func242.trans (congrArg some (by kernel_rfl))
 f33 := ⟨Tryz.f243.name, by decide, Tryz.func243.trans (congrArg some (by kernel_rfl))⟩
 f34 := ⟨Tryz.f244.name, by decide, Tryz.func244.trans (congrArg some (by kernel_rfl))⟩
 f35 := ⟨Tryz.f245.name, by decide, Tryz.func245.trans (congrArg some (by kernel_rfl))⟩
 f40 := ⟨Tryz.f256.name, by decide, Tryz.func256.trans (congrArg some (by kernel_rfl))⟩
 t0 := Tryz.underlying0
 a0 := Tryz.isAgg0
 z0 := Tryz.sizeOf0
 v0 := Tryz.zeroValue0
 t3 := Tryz.underlying3
 a3 := Tryz.isAgg3
 z3 := Tryz.sizeOf3
 v3 := Tryz.zeroValue3
 t4 := Tryz.underlying4
 a4 := Tryz.isAgg4
 z4 := Tryz.sizeOf4
 v4 := Tryz.zeroValue4
 t5 := Tryz.underlying5
 a5 := Tryz.isAgg5
 z5 := Tryz.sizeOf5
 v5 := Tryz.zeroValue5
 t9 := Tryz.underlying9
 a9 := Tryz.isAgg9
 z9 := Tryz.sizeOf9
 v9 := Tryz.zeroValue9
 t22 := Tryz.underlying57
 a22 := Tryz.isAgg57
 z22 := Tryz.sizeOf57
 v22 := Tryz.zeroValue57
 t23 := Tryz.underlying57
 a23 := Tryz.isAgg57
 z23 := Tryz.sizeOf57
 v23 := Tryz.zeroValue57
 t25 := Tryz.underlying3
 a25 := Tryz.isAgg3
 z25 := Tryz.sizeOf3
 v25 := Tryz.zeroValue3
 t32 := Tryz.underlying183
 a32 := Tryz.isAgg183
 z32 := Tryz.sizeOf183
 v32 := Tryz.zeroValue183
 t35 := Tryz.underlying259
 a35 := Tryz.isAgg259
 z35 := Tryz.sizeOf259
 v35 := Tryz.zeroValue259
 t36 := Tryz.underlying260
 a36 := Tryz.isAgg260
 z36 := Tryz.sizeOf260
 v36 := Tryz.zeroValue260
 t41 := Tryz.underlying125
 a41 := Tryz.isAgg125
 z41 := Tryz.sizeOf125
 v41 := Tryz.zeroValue125
 t44 := Tryz.underlying196
 a44 := Tryz.isAgg196
 z44 := Tryz.sizeOf196
 v44 := Tryz.zeroValue196
 t46 := Tryz.underlying105
 a46 := Tryz.isAgg105
 z46 := Tryz.sizeOf105
 v46 := Tryz.zeroValue105
 t53 := Tryz.underlying285
 a53 := Tryz.isAgg285
 z53 := Tryz.sizeOf285
 v53 := Tryz.zeroValue285
 t57 := Tryz.underlying245
 a57 := Tryz.isAgg245
 z57 := Tryz.sizeOf245
 v57 := Tryz.zeroValue245
 t63 := Tryz.underlying302
 a63 := Tryz.isAgg302
 z63 := Tryz.sizeOf302
 v63 := Tryz.zeroValue302
 t64 := Tryz.underlying303
 a64 := Tryz.isAgg303
 z64 := Tryz.sizeOf303
 v64 := Tryz.zeroValue303 }
end Go.Proofs
