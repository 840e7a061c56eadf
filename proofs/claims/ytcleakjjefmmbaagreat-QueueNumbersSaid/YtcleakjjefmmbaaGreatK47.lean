/- Several texts in one: SfShelf, SfNames, SfTidy, SfGrow. -/
import Derived.Shelf.SlIter.Nil
import Derived.Shelf.SortM.Plain
import Derived.Shelf.SortM.SortNone
import Derived.Test.YtcleakjjefmmbaaGreatProg
import Derived.Test.YtcleakjjefmmbaaGreatK25
import Derived.Test.YtcleakjjefmmbaaGreatK34
import Derived.Test.YtcleakjjefmmbaaGreatK02
import Derived.Test.YtcleakjjefmmbaaGreatK36
import Derived.Test.YtcleakjjefmmbaaGreatK32
import Derived.Test.YtcleakjjefmmbaaGreatVdNext
/- The shelf's contracts at this seat: maps.Keys, slices.Sorted, slices.Sort at string keys. -/
namespace Go.Proofs
open Go.Shelf
def Tryz.keysNam_ren : Go.Shelf.Ren := ⟨fun | 7 => 78 | 10 => 151 | n => n, fun | 23 => 83 | 26 => 9 | 3 => 3 | 28 => 157 | 0 => 0 | 27 => 156 | 33 => 91 | 4 => 4 | n => n, fun | n => n⟩
theorem Tryz.keysNam : Go.Proofs.SlLaysZ.n7 Tryz.prog Tryz.keysNam_ren := {
 mixed := by kernel_rfl
 f7 := ⟨Tryz.f78.name, by decide, Tryz.func78.trans (congrArg some (by kernel_rfl))⟩
 f10 := ⟨Tryz.f151.name, by decide, Tryz.func151.trans (congrArg some (by kernel_rfl))⟩
 t0 := Tryz.underlying0
 a0 := Tryz.isAgg0
 z0 := Tryz.sizeOf0
 v0 := Tryz.zeroValue0
 t4 := Tryz.underlying4
 a4 := Tryz.isAgg4
 z4 := Tryz.sizeOf4
 v4 := Tryz.zeroValue4
 t23 := Tryz.underlying83
 a23 := Tryz.isAgg83
 z23 := Tryz.sizeOf83
 v23 := Tryz.zeroValue83
 t26 := Tryz.underlying9
 a26 := Tryz.isAgg9
 z26 := Tryz.sizeOf9
 v26 := Tryz.zeroValue9
 t27 := Tryz.underlying156
 a27 := Tryz.isAgg156
 z27 := Tryz.sizeOf156
 v27 := Tryz.zeroValue156
 t28 := Tryz.underlying157
 a28 := Tryz.isAgg157
 z28 := Tryz.sizeOf157
 v28 := Tryz.zeroValue157
 t33 := Tryz.underlying91
 a33 := Tryz.isAgg91
 z33 := Tryz.sizeOf91
 v33 := Tryz.zeroValue91 }
def Tryz.sortedStr_ren : Go.Shelf.Ren := ⟨fun | 6 => 77 | 8 => 149 | 9 => 150 | 11 => 197 | 13 => 177 | 12 => 198 | 23 => 222 | 24 => 223 | 14 => 236 | 15 => 237 | 16 => 238 | 17 => 239 | 18 => 240 | 19 => 241 | 20 => 242 | 21 => 243 | 22 => 244 | 25 => 264 | 26 => 253 | 27 => 254 | 28 => 265 | 29 => 266 | 30 => 267 | 31 => 273 | n => n, fun | 26 => 9 | 28 => 157 | 24 => 78 | 0 => 0 | 3 => 3 | 37 => 187 | 48 => 236 | 50 => 232 | 4 => 4 | 40 => 274 | 39 => 273 | 45 => 90 | 5 => 5 | 9 => 9 | 51 => 304 | 55 => 308 | 57 => 315 | 58 => 185 | 33 => 91 | n => n, fun | n => n⟩
theorem Tryz.sortedStr : Go.Proofs.SlLaysZ.n6 Tryz.prog Tryz.sortedStr_ren := {
 mixed := by kernel_rfl
 f6 := ⟨Tryz.f77.name, by decide, Tryz.func77.trans (congrArg some (by kernel_rfl))⟩
 f8 := ⟨Tryz.f149.name, by decide, Tryz.func149.trans (congrArg some (by kernel_rfl))⟩
 f11 := ⟨Tryz.f197.name, by decide, Tryz.func197.trans (congrArg some (by kernel_rfl))⟩
 t0 := Tryz.underlying0
 a0 := Tryz.isAgg0
 z0 := Tryz.sizeOf0
 v0 := Tryz.zeroValue0
 t24 := Tryz.underlying78
 a24 := Tryz.isAgg78
 z24 := Tryz.sizeOf78
 v24 := Tryz.zeroValue78
 t26 := Tryz.underlying9
 a26 := Tryz.isAgg9
 z26 := Tryz.sizeOf9
 v26 := Tryz.zeroValue9
 t28 := Tryz.underlying157
 a28 := Tryz.isAgg157
 z28 := Tryz.sizeOf157
 v28 := Tryz.zeroValue157
 i26 := by kernel_rfl }
def Tryz.sortStr_ren : Go.Shelf.Ren := ⟨fun | 6 => 150 | 8 => 177 | 9 => 198 | 19 => 222 | 20 => 223 | 21 => 236 | 22 => 237 | 23 => 238 | 24 => 239 | 25 => 240 | 26 => 241 | 27 => 242 | 28 => 243 | 29 => 244 | 36 => 264 | 31 => 253 | 32 => 254 | 37 => 265 | 38 => 266 | 39 => 267 | 41 => 273 | n => n, fun | 27 => 78 | 29 => 9 | 3 => 3 | 32 => 187 | 26 => 78 | 0 => 0 | 44 => 236 | 46 => 232 | 4 => 4 | 36 => 274 | 35 => 273 | 41 => 90 | 5 => 5 | 9 => 9 | 53 => 304 | 57 => 308 | 63 => 315 | 64 => 185 | n => n, fun | n => n⟩
theorem Tryz.sortStr : Go.Proofs.SlLaysM.n6 Tryz.prog Tryz.sortStr_ren := {
 mixed := by kernel_rfl
 f6 := ⟨Tryz.f150.name, by decide, Tryz.func150.trans (congrArg some (by kernel_rfl))⟩
 f8 := Tryz.func177.trans (congrArg some (by kernel_rfl))
 f9 := ⟨Tryz.f198.name, by decide, Tryz.func198.trans (congrArg some (by kernel_rfl))⟩
 f19 := Tryz.func222.trans (congrArg some (by kernel_rfl))
 f20 := Tryz.func223.trans (congrArg some (by kernel_rfl))
 f21 := ⟨Tryz.f236.name, by decide, Tryz.func236.trans (congrArg some (by kernel_rfl))⟩
 f22 := ⟨Tryz.f237.name, by decide, Tryz.func237.trans (congrArg some (by kernel_rfl))⟩
 f23 := ⟨Tryz.f238.name, by decide, Tryz.func238.trans (congrArg some (by kernel_rfl))⟩
 f24 := ⟨Tryz.f239.name, by decide, Tryz.func239.trans (congrArg some (by kernel_rfl))⟩
 f25 := ⟨Tryz.f240.name, by decide, Tryz.func240.trans (congrArg some (by kernel_rfl))⟩
 f26 := ⟨Tryz.f241.name, by decide, Tryz.func241.trans (congrArg some (by kernel_rfl))⟩
 f27 := ⟨Tryz.f242.name, by decide, Tryz.func242.trans (congrArg some (by kernel_rfl))⟩
 f28 := ⟨Tryz.f243.name, by decide, Tryz.func243.trans (congrArg some (by kernel_rfl))⟩
 f29 := ⟨Tryz.f244.name, by decide, Tryz.func244.trans (congrArg some (by kernel_rfl))⟩
 f31 := Tryz.func253.trans (congrArg some (by kernel_rfl))
 f32 := Tryz.func254.trans (congrArg some (by kernel_rfl))
 f36 := ⟨Tryz.f264.name, by decide, Tryz.func264.trans (congrArg some (by kernel_rfl))⟩
 f37 := ⟨Tryz.f265.name, by decide, Tryz.func265.trans (congrArg some (by kernel_rfl))⟩
 f38 := ⟨Tryz.f266.name, by decide, Tryz.func266.trans (congrArg some (by kernel_rfl))⟩
 f39 := ⟨Tryz.f267.name, by decide, Tryz.func267.trans (congrArg some (by kernel_rfl))⟩
 f41 := ⟨Tryz.f273.name, by decide, Tryz.func273.trans (congrArg some (by kernel_rfl))⟩
 t0 := Tryz.underlying0
 a0 := Tryz.isAgg0
 z0 := Tryz.sizeOf0
 v0 := Tryz.zeroValue0
 t3 := Tryz.underlying3
 a3 := Tryz.isAgg3
 z3 := Tryz.sizeOf3
 v3 := Tryz.zeroValue3
 t4 := Tryz.underlying4
 a4 := Tryz.isAgg4
 z4 := Tryz.sizeOf4
 v4 := Tryz.zeroValue4
 t5 := Tryz.underlying5
 a5 := Tryz.isAgg5
 z5 := Tryz.sizeOf5
 v5 := Tryz.zeroValue5
 t9 := Tryz.underlying9
 a9 := Tryz.isAgg9
 z9 := Tryz.sizeOf9
 v9 := Tryz.zeroValue9
 t26 := Tryz.underlying78
 a26 := Tryz.isAgg78
 z26 := Tryz.sizeOf78
 v26 := Tryz.zeroValue78
 t27 := Tryz.underlying78
 a27 := Tryz.isAgg78
 z27 := Tryz.sizeOf78
 v27 := Tryz.zeroValue78
 t29 := Tryz.underlying9
 a29 := Tryz.isAgg9
 z29 := Tryz.sizeOf9
 v29 := Tryz.zeroValue9
 t32 := Tryz.underlying187
 a32 := Tryz.isAgg187
 z32 := Tryz.sizeOf187
 v32 := Tryz.zeroValue187
 t35 := Tryz.underlying273
 a35 := Tryz.isAgg273
 z35 := Tryz.sizeOf273
 v35 := Tryz.zeroValue273
 t36 := Tryz.underlying274
 a36 := Tryz.isAgg274
 z36 := Tryz.sizeOf274
 v36 := Tryz.zeroValue274
 t41 := Tryz.underlying90
 a41 := Tryz.isAgg90
 z41 := Tryz.sizeOf90
 v41 := Tryz.zeroValue90
 t44 := Tryz.underlying236
 a44 := Tryz.isAgg236
 z44 := Tryz.sizeOf236
 v44 := Tryz.zeroValue236
 t46 := Tryz.underlying232
 a46 := Tryz.isAgg232
 z46 := Tryz.sizeOf232
 v46 := Tryz.zeroValue232
 t53 := Tryz.underlying304
 a53 := Tryz.isAgg304
 z53 := Tryz.sizeOf304
 v53 := Tryz.zeroValue304
 t57 := Tryz.underlying308
 a57 := Tryz.isAgg308
 z57 := Tryz.sizeOf308
 v57 := Tryz.zeroValue308
 t63 := Tryz.underlying315
 a63 := Tryz.isAgg315
 z63 := Tryz.sizeOf315
 v63 := Tryz.zeroValue315
 t64 := Tryz.underlying185
 a64 := Tryz.isAgg185
 z64 := Tryz.sizeOf185
 v64 := Tryz.zeroValue185 }
end Go.Proofs

/- vdisk: Names, rising; how many turns and writes wait. -/
namespace Go.Proofs.YtcleakjjefmmbaaGreat
open Go.RowKit Go.Sort Go.Shelf
namespace Vd
open Go.Maps
open Mbx (intD intElem intElem_inv)
theorem sortsStr (m : Nat) : AnyZ.SortsIn Tryz.prog Tryz.sortedStr_ren Fence.wide m :=
 ⟨fun blk off cap ss W hH hblk hsz => callsIn_wide.2 (AnyM.slices_Sort_string Tryz.sortStr blk off cap ss W hH hblk hsz),
  fun p cap W => callsIn_wide.2 (AnyM.slices_Sort_string_none Tryz.sortStr p cap W)⟩
theorem keysNam_any (mb : Option Nat) (W : World) : Calls Tryz.prog 78 #[.map mb] W fun e w' => e = .returned (.func (.func 151) #[] #[.pointer (some ⟨W.heap.size, 0, none⟩)]) ∧ w' = W.alloc (.cells #[.map mb] 83) :=
 (callsIn_wide (n := 5)).1 (AnyZ.keys_in Tryz.keysNam Fence.wide 5 trivial rfl mb W)
theorem sortedNam_any (b nn : Nat) (D0 : DataW Unit) (R : Value → Option (DataW Unit × List MemPlace)) (w : World) (hown : w.ownsMap Tryz.prog 9 R b nn D0) (hn : nn ≤ 1000000) :
  Calls Tryz.prog 77 #[.func (.func 151) #[] #[.pointer (some ⟨w.heap.size, 0, none⟩)]] (w.alloc (.cells #[.map (some b)] 83)) fun e w' => ∃ (v : Value) (ss : List (List UInt8)), e = .returned v ∧ ss.Perm (strKeys D0) ∧ Own w' w.heap.size 9 v ((ss.mergeSort (fun x y => decide (x ≤ y))).map encStr) ∧ Keeps w w' := by
 refine (callsIn_wide (n := 5)).1 ?_
 have hsz := hown.size_le
 have hbl := hown.lt
 have hseq : SeqGives Fence.wide 2 Tryz.prog 151 #[.pointer (some ⟨w.heap.size, 0, none⟩)] encStr (fun ss => ss.Perm (strKeys D0)) (Maps.size D0) (w.alloc (.cells #[.map (some b)] 83)) :=
  AnyZ.keys_gives (ρ := Tryz.keysNam_ren) { Tryz.keysNam with } Fence.wide _ trivial rfl (by omega) w.heap.size b nn D0 _ (by simp) (by simp) (by
   obtain ⟨es, clock, hb, Ft, hs, hD⟩ := hown
   exact ⟨es, clock, (Below.heap_alloc _ _ b hbl).trans hb, Ft, hs, hD⟩)
 have cS := AnyZ.sorted_in Tryz.sortedStr Fence.wide 5 trivial trivial trivial trivial rfl (by omega) (sortsStr _) (enters_of Tryz.func150 (by kernel_rfl) rfl) 151 #[.pointer (some ⟨w.heap.size, 0, none⟩)] trivial (enters_of Tryz.func151 (by kernel_rfl) rfl) _ _ (by unfold maxLen; omega) (by omega) _ hseq
 change CallsIn _ _ Tryz.prog 77 _ _ _ at cS
 refine cS.mono ?_
 rintro e w' ⟨v, ss, rfl, hS, hrow, hnil, hb⟩
 refine ⟨v, ss, rfl, hS, ?_, ((Below.refl _ w).alloc (Nat.le_refl _) _).trans (hb.mono (by simp))⟩
 unfold Own
 rw [show ((ss.mergeSort (fun x y => decide (x ≤ y))).map encStr).length = ss.length from by simp]
 exact ownsRow_base_a hrow (by simp)
/-- the names, as Go's strings -/
def nameV (l : Nms) : List Value := l.map fun p => Value.string (bstr p.1)
theorem sorted_names {w : World} {b nn : Nat} {D : DataW Unit} {l : Nms} (ho : w.ownsMap Tryz.prog 9 intElem b nn D) (h : ReadsN D l) {ss : List (List UInt8)} (hs : ss.Perm (strKeys D)) : (ss.mergeSort (fun x y => decide (x ≤ y))).map encStr = nameV l := by
 have hnd : (l.map (·.1)).Nodup := List.pairwise_map.2 (h.2.1.imp fun {a b} hab => str_ne hab)
 have hc : Collected D (fun _ => false) (l.map (·.1)) := ⟨hnd, fun x => by
  rw [(h.2.2 x).1]
  simp only [and_true]
  cases e : look l x with
  |none =>
   rw [look_none] at e
   simp only [List.mem_map]
   constructor
   ·rintro ⟨p, hp, rfl⟩; exact absurd rfl (e p hp)
   ·intro hh; cases hh
  |some i =>
   have := (look_mem h.2.1).1 e
   simp only [Option.isSome_some, iff_true]
   exact List.mem_map.2 ⟨_, this, rfl⟩⟩
 have hp := hc.perm ho strKeyed Tryz.underlying9 (fun _ => rfl)
 have e : ss.mergeSort (fun x y => decide (x ≤ y)) = l.map (·.1) := by
  show ss.mergeSort leB = _
  rw [mergeSort_of_perm (hs.trans hp.symm)]
  refine List.mergeSort_of_pairwise ?_
  refine List.pairwise_map.2 (h.2.1.imp fun {a b} hab => ?_)
  exact decide_eq_true (List.le_of_lt hab)
 rw [e, List.map_map]
 rfl
def namesD (d : Dsk) : Nms := if d.off then [] else d.seen
def NamesDid (W : World) (d : Dsk) (e : Ending) (w' : World) : Prop := ∃ v, e = .returned v ∧ Own w' W.heap.size 9 v (nameV (namesD d)) ∧ Keeps W w'
theorem names_any (w : World) {S : Nat → Prop} {g : Nat} {d : Dsk} (h : DiskAt w S g d) : Calls Tryz.prog 31 #[.pointer (some ⟨g, 0, none⟩)] w (NamesDid w d) := by
 obtain ⟨b1, b2, nv, mv, nb, h⟩ := h
 obtain ⟨-, -, c2, -, -, c5, -⟩ := h.cells
 obtain ⟨D, ho, hr⟩ := h.seen
 have hs1 := h.fit.s1
 unfold NamesDid
 cases hoff : d.off with
 |true =>
  rw [hoff] at c5
  have HX := Lib.hid (show namesD d = [] from by unfold namesD; rw [hoff]; rfl)
  clear ho hr h c2 hoff
  go_enter Tryz.func31, Tryz.ntmps31
  go_wp2_with fail
  go_ret
  exact ⟨_, rfl, by rw [HX.out]; exact Own.nil _ _ _, Keeps.refl _⟩
 |false =>
  rw [hoff] at c5
  have HX := Lib.hid (show namesD d = d.seen from by unfold namesD; rw [hoff]; rfl)
  have HS := Lib.hid (sortedNam_any b1 _ D intElem w ho (by omega))
  have HM := Lib.hid (fun (ss : List (List UInt8)) (hs : ss.Perm (strKeys D)) => sorted_names ho hr hs)
  clear ho hr h hoff
  go_enter Tryz.func31, Tryz.ntmps31
  go_wp2_with fail
  refine (keysNam_any _ _).mono ?_
  rintro e w2 ⟨rfl, rfl⟩
  go_wp2_with fail
  refine HS.out.mono ?_
  rintro e w3 ⟨v, ss, rfl, hss, hown, hk⟩
  have HO := Lib.hid (show Own w3 w.heap.size 9 v (nameV (namesD d)) from by rw [HX.out, ← HM.out ss hss]; exact hown)
  have HK := Lib.hid hk
  clear hown hk hss
  obtain ⟨p, n, c, rfl⟩ := HO.out.sl
  go_wp2_with fail
  go_ret
  exact ⟨_, rfl, HO.out, HK.out⟩
end Vd
end Go.Proofs.YtcleakjjefmmbaaGreat

/- safe: Tidy. -/
namespace Go.Proofs.YtcleakjjefmmbaaGreat
open Go.RowKit
namespace Sf
open Vd
open Rs (strV own_n rowAtV)
theorem tidyN_pre (p x : Str) : tidyN p x = (Sx.preB x p && Sx.sufB x dotN) := by
 unfold tidyN Sx.preB Sx.sufB
 have e : ∀ a b : Str, (a == b) = decide (a = b) := fun a b => by by_cases h : a = b <;> simp [h]
 rw [show dotN.length = 2 from rfl, Bool.decide_and, Bool.decide_and, e, e]
/-- what is left to be unlinked -/
def tidyF (p : Str) (l : List Str) : List Str := l.filter (tidyN p)
theorem unlinksD_cons (x : Str) (l : List Str) (d : Dsk) : unlinksD (x :: l) d = if (unlinkD d x).2 ≠ 0 then unlinkD d x else unlinksD l (unlinkD d x).1 := rfl
theorem tidyF_drop (p : Str) {l : List Str} {j : Nat} (h : j < l.length) : tidyF p (l.drop j) = if tidyN p l[j] = true then l[j] :: tidyF p (l.drop (j + 1)) else tidyF p (l.drop (j + 1)) := by
 unfold tidyF
 rw [List.drop_eq_getElem_cons h, List.filter_cons]
section
variable {S : Nat → Prop} {w1 w wb : World} {g : Nat} {d : Dsk} {k : Nat}
/-- a slice made since lies apart from the disk -/
theorem On.stayR (h : On S w1 w g d k) {e : TypeId} {v : Value} {l : List Value} (ho : Own wb w.heap.size e v l) : Stays (More S w1 w) wb v l := fun w2 hm => by
 rcases ho.2 with ⟨hv, hl⟩ | ⟨b, cap, cur, hv, hb, hgg, rest⟩
 ·have hl0 : l = [] := List.eq_nil_of_length_eq_zero hl
  subst hl0
  subst hv
  exact row_nil w2
 ·subst hv
  refine row_modsB ho.row hm (fun hh => ?_)
  have hs := h.mods.size
  rcases hh with hh | hh
  ·have := h.lt b hh
   omega
  ·omega
set_option maxRecDepth 100000 in
set_option maxHeartbeats 4000000 in
theorem stidy_on (h : On S w1 w g d k) (p : Str) (hp : p.length ≤ 1000000000) (hxl : ∀ y ∈ d.seen, y.1.length ≤ 1000000000) {N : Nat} (hN : d.seen.length ≤ N) (hk : k + N ≤ 89900) : Calls Tryz.prog 38 #[.pointer (some ⟨g, 0, none⟩), .string (bstr p)] w (Says (Tells S w1 g (sTidy p d) (k + N))) := by
 have H := Lib.hid h
 have HNM := Lib.hid (names_any w h.dsk)
 clear h
 obtain ⟨l, hl⟩ : ∃ l, l = (namesD d).map (·.1) := ⟨_, rfl⟩
 have hll : l.length ≤ N := by
  rw [hl, List.length_map]
  unfold namesD
  split
  ·exact Nat.zero_le _
  ·exact hN
 have HXL := Lib.hid (show ∀ x ∈ l, x.length ≤ 1000000000 from fun x hx => by
  rw [hl] at hx
  obtain ⟨y, hy, rfl⟩ := List.mem_map.1 hx
  unfold namesD at hy
  split at hy
  ·exact absurd hy (List.not_mem_nil)
  ·exact hxl y hy)
 have HX0 := Lib.hid (show sTidy p d = unlinksD (tidyF p l) d from by
  rw [hl]
  unfold sTidy namesD
  cases d.off <;> rfl)
 have HNV := Lib.hid (show nameV (namesD d) = l.map strV from by rw [hl, List.map_map]; rfl)
 clear hl hxl hN
 go_enter Tryz.func38, Tryz.ntmps38
 go_wp2_with fail
 refine HNM.out.mono ?_
 rintro e wb ⟨v, rfl, hown, hkb⟩
 rw [HNV.out] at hown
 have HST := Lib.hid (On.stayR H.out hown)
 obtain ⟨pn, n, cn, rfl⟩ := hown.sl
 have HNL := Lib.hid (show n = l.length from by rw [own_n hown, List.length_map])
 have hnn : n ≤ 89900 := by rw [HNL.out]; omega
 have HB := Lib.hid (H.out.base hkb)
 have HKB := Lib.hid hkb
 clear hown hkb HNM HNV
 go_wp2_with fail
 go_loopw [11] (fun ix wr => ∃ (j : Nat) (dj : Dsk), ix = .int .i64 (j : Int) ∧ j ≤ n ∧ Hid (On (More S w1 w) wb wr g dj (k + j) ∧ unlinksD (tidyF p l) d = unlinksD (tidyF p (l.drop j)) dj)) (fun ix _ => n - (RowKit.intOf ix).toNat)
 case atStart => exact ⟨0, d, rfl, Nat.zero_le _, Lib.hid ⟨HB.out, rfl⟩⟩
 case round =>
  obtain ⟨j, dj, rfl, hj, HQ⟩ := hrel
  by_cases hlt : j < n
  ·have hjl : j < l.length := by rw [← HNL.out]; exact hlt
   have hlt' : (j : Int) < (n : Int) := by omega
   obtain ⟨b, off, rfl, hcell⟩ := rowAtV (HST.out wr HQ.out.1.mods) (by rw [List.length_map]; exact hjl)
   have hcell2 : wr.cell? ⟨b, off + j, none⟩ = some (.string (bstr l[j])) := by rw [hcell]; simp [strV]
   have hsl := HXL.out _ (List.getElem_mem hjl)
   have HTS := Lib.hid (tidyF_drop p hjl)
   generalize l[j] = s at *
   have HP := Lib.hid (Sx.pre_any s p (by omega) (by omega) wr)
   have HSF := Lib.hid (show Calls Tryz.prog 82 #[.string (bstr s), .string ⟨#[46, 110]⟩] wr fun e w' => e = .returned (.bool (Sx.sufB s dotN)) ∧ wr = w' from Sx.suf_any s dotN (by omega) (by decide) wr)
   have HTN := Lib.hid (tidyN_pre p s)
   clear hcell
   cases hA : Sx.preB s p with
   |false =>
    rw [hA] at HP
    have hno : ¬ tidyN p s = true := by rw [HTN.out, hA]; simp
    have HQ2 := Lib.hid (show unlinksD (tidyF p l) d = unlinksD (tidyF p (l.drop (j + 1))) dj from by rw [HQ.out.2, HTS.out, if_neg hno])
    clear hno hA HTN HTS
    go_wp2_with fail
    refine HP.out.mono ?_
    rintro e w5 ⟨rfl, rfl⟩
    go_wp2_with fail
    go_roundw
    case rel => exact ⟨j + 1, dj, by simp, by omega, Lib.hid ⟨On.more HQ.out.1 (by omega), HQ2.out⟩⟩
    case measure =>
     simp only [RowKit.intOf]
     omega
   |true =>
    rw [hA] at HP
    cases hB : Sx.sufB s dotN with
    |false =>
     rw [hB] at HSF
     have hno : ¬ tidyN p s = true := by rw [HTN.out, hA, hB]; simp
     have HQ2 := Lib.hid (show unlinksD (tidyF p l) d = unlinksD (tidyF p (l.drop (j + 1))) dj from by rw [HQ.out.2, HTS.out, if_neg hno])
     clear hno hA hB HTN HTS
     go_wp2_with fail
     refine HP.out.mono ?_
     rintro e w5 ⟨rfl, rfl⟩
     go_wp2_with fail
     refine HSF.out.mono ?_
     rintro e w5 ⟨rfl, rfl⟩
     go_wp2_with fail
     go_roundw
     case rel => exact ⟨j + 1, dj, by simp, by omega, Lib.hid ⟨On.more HQ.out.1 (by omega), HQ2.out⟩⟩
     case measure =>
      simp only [RowKit.intOf]
      omega
    |true =>
     rw [hB] at HSF
     have hyes : tidyN p s = true := by rw [HTN.out, hA, hB]; rfl
     have HQ2 := Lib.hid (show unlinksD (tidyF p l) d = if (unlinkD dj s).2 ≠ 0 then unlinkD dj s else unlinksD (tidyF p (l.drop (j + 1))) (unlinkD dj s).1 from by rw [HQ.out.2, HTS.out, if_pos hyes, unlinksD_cons])
     have HU := Lib.hid (unlink_on HQ.out.1 (by omega) s (by unfold maxLen; omega))
     generalize unlinkD dj s = q1 at *
     obtain ⟨d1, e1⟩ := q1
     simp only at HU HQ2
     clear hyes hA hB HTN HTS
     go_wp2_with fail
     refine HP.out.mono ?_
     rintro e w5 ⟨rfl, rfl⟩
     go_wp2_with fail
     refine HSF.out.mono ?_
     rintro e w5 ⟨rfl, rfl⟩
     go_wp2_with fail
     refine HU.out.mono ?_
     rintro e w6 ⟨rfl, ho6⟩
     have HO6 := Lib.hid ho6
     clear ho6 HU HP HSF hcell2
     by_cases he : e1 = 0
     ·subst he
      have HQ3 := Lib.hid (HQ2.out.trans (if_neg (by simp)))
      go_wp2_with fail
      go_roundw
      case rel => exact ⟨j + 1, d1, by simp, by omega, Lib.hid ⟨On.more HO6.out (by omega), HQ3.out⟩⟩
      case measure =>
       simp only [RowKit.intOf]
       omega
     ·have HX : Hid (sTidy p d = (d1, e1)) := Lib.hid (HX0.out.trans (HQ2.out.trans (if_pos he)))
      have he' : (e1 != 0) = true := by simp [he]
      clear he
      go_wp2_with fail
      go_ret
      refine ⟨e1, rfl, ?_⟩
      rw [HX.out]
      exact ⟨rfl, On.more (H.out.back HKB.out HO6.out) (by omega)⟩
  ·obtain rfl : j = n := by omega
   have hlt' : decide ((j : Int) < (j : Int)) = false := by simp
   have HX : Hid (sTidy p d = (dj, 0)) := Lib.hid (by rw [HX0.out, HQ.out.2, HNL.out, List.drop_length]; rfl)
   have hjN : j ≤ N := by rw [HNL.out]; exact hll
   go_wp2_with fail
   go_ret
   refine ⟨0, rfl, ?_⟩
   rw [HX.out]
   exact ⟨rfl, On.more (H.out.back HKB.out HQ.out.1) (by omega)⟩
end
end Sf
namespace Rf
open Vd
open Go.Maps
section
variable {L : List Nat} {W w w' : World} {g m : Nat} {d d' : Dsk} {r : RDsk} {k k' : Nat} {S M : Nat → Prop}
end
end Rf
end Go.Proofs.YtcleakjjefmmbaaGreat

/- How many nodes each call makes; Boot on both disks, side by side; the two disks begin alike. -/
namespace Go.Proofs.YtcleakjjefmmbaaGreat
open Go.RowKit
namespace Sf
open Vd
/-- at most so many nodes are made -/
def Grows (n : Nat) (f : Dsk → Dsk × Int) : Prop := ∀ d, (f d).1.nodes.length ≤ d.nodes.length + n
theorem grows_change (d : Dsk) : (changeD d).1.nodes.length = d.nodes.length := by rw [(changeD_seen d).2.1]
theorem grows_touch (d : Dsk) (x : Str) : (touchD d x).1.nodes.length = d.nodes.length := by rw [touch_fst, grows_change]
theorem grows_create (x : Str) : Grows 1 (fun d => createD d x) := fun d => by
 have := grows_change d
 show (createD d x).1.nodes.length ≤ _
 unfold createD
 split
 ·omega
 ·split
  ·show (changeD d).1.nodes.length ≤ _; omega
  ·split
   ·show (changeD d).1.nodes.length ≤ _; omega
   ·split
    ·show (changeD d).1.nodes.length ≤ _; omega
    ·show (bornD (changeD d).1).nodes.length ≤ _
     simp [bornD]
     omega
theorem grows_write (d : Dsk) (i : Nat) (p : Pat) : (writeD d i p).1.nodes.length = d.nodes.length := by
 unfold writeD
 split
 ·rfl
 ·simp [putD]
theorem grows_append (x b : Str) : Grows 0 (fun d => appendD d x b) := fun d => by
 have := grows_touch d x
 show (appendD d x b).1.nodes.length ≤ _
 unfold appendD
 split
 ·show (touchD d x).1.nodes.length ≤ _; omega
 ·rw [grows_write]; omega
theorem grows_sync (x : Str) : Grows 0 (fun d => syncD d x) := fun d => by
 have := grows_touch d x
 show (syncD d x).1.nodes.length ≤ _
 unfold syncD
 split
 ·show (touchD d x).1.nodes.length ≤ _; omega
 ·show (List.set _ _ _).length ≤ _
  rw [List.length_set]; omega
theorem grows_rename (x y : Str) : Grows 0 (fun d => renameD d x y) := fun d => by
 have := grows_change d
 show (renameD d x y).1.nodes.length ≤ _
 unfold renameD
 split
 ·omega
 ·split
  ·show (changeD d).1.nodes.length ≤ _; omega
  ·split
   ·show (changeD d).1.nodes.length ≤ _; omega
   ·show (changeD d).1.nodes.length ≤ _; omega
theorem grows_unlink (x : Str) : Grows 0 (fun d => unlinkD d x) := fun d => by
 have := grows_touch d x
 show (unlinkD d x).1.nodes.length ≤ _
 unfold unlinkD
 split
 ·show (touchD d x).1.nodes.length ≤ _; omega
 ·show (touchD d x).1.nodes.length ≤ _; omega
theorem grows_syncDir : Grows 0 syncDirD := fun d => by
 have := grows_change d
 unfold syncDirD
 split
 ·omega
 ·show (List.map staleN _).length ≤ _
  rw [List.length_map]; omega
theorem grows_boot (d : Dsk) (t : Int) (ks : List Int) : (bootD d t ks).1.nodes.length = d.nodes.length := by
 unfold bootD
 split
 ·rfl
 ·show (List.map staleN _).length = _
  rw [List.length_map, bootIx_len]
theorem grows_twice {f : Dsk → Dsk × Int} (h : Grows 0 f) : Grows 0 (twice f) := fun d => by
 have h1 := h d
 have h2 := h (f d).1
 unfold twice
 split <;> omega
theorem grows_then {n m : Nat} {f g : Dsk → Dsk × Int} (h1 : Grows n f) (h2 : Grows m g) : Grows (n + m) (fun d => thenD (f d) g) := fun d => by
 have h1 := h1 d
 have h2 := h2 (f d).1
 show (thenD (f d) g).1.nodes.length ≤ _
 unfold thenD
 split <;> omega
theorem grows_sSync (x : Str) : Grows 0 (sSync x) := grows_twice (grows_sync x)
theorem grows_sDir : Grows 0 sDir := grows_twice grows_syncDir
theorem grows_sUnlink (x : Str) : Grows 0 (sUnlink x) := grows_twice (grows_unlink x)
theorem grows_sAppend (x b : Str) : Grows 0 (sAppend x b) := grows_then (grows_append x b) (grows_sSync x)
theorem grows_sMake (x b : Str) : Grows 1 (sMake x b) := fun d => by
 have h1 := grows_create x d
 have h2 := grows_then (grows_sAppend x b) grows_sDir (createD d x).1
 have h3 := grows_sUnlink x (thenD (sAppend x b (createD d x).1) sDir).1
 dsimp only at h1 h2 h3
 unfold sMake
 split
 ·show d.nodes.length ≤ _; omega
 ·split
  ·exact h1
  ·unfold tidyD
   split
   ·omega
   ·show (sUnlink x _).1.nodes.length ≤ _; omega
theorem grows_sDrop (x : Str) : Grows 0 (sDrop x) := fun d => by
 have h1 := grows_then (grows_unlink x) grows_sDir d
 dsimp only at h1
 unfold sDrop
 split
 ·show d.nodes.length ≤ _; omega
 ·exact h1
theorem grows_sSwap1 (x n b : Str) : Grows 1 (sSwap1 x n b) := fun d => by
 have h1 := grows_then (grows_then (grows_then (grows_create n) (grows_sAppend n b)) (grows_rename n x)) grows_sDir d
 have h2 := grows_sUnlink n (thenD (thenD (thenD (createD d n) (sAppend n b)) (fun d => renameD d n x)) sDir).1
 dsimp only at h1 h2
 unfold sSwap1 tidyS
 split
 ·omega
 ·show (sUnlink n _).1.nodes.length ≤ _; omega
theorem grows_sSwap (x b : Str) : Grows 1 (sSwap x b) := fun d => by
 have h1 := grows_sSwap1 x (x ++ dotN) b d
 have h2 := grows_unlink (x ++ dotN) d
 have h3 := grows_sSwap1 x (x ++ dotN) b (unlinkD d (x ++ dotN)).1
 dsimp only at h2
 unfold sSwap
 split
 ·show d.nodes.length ≤ _; omega
 ·split
  ·split
   ·omega
   ·omega
  ·exact h1
theorem grows_unlinks : ∀ (l : List Str), Grows 0 (unlinksD l)
 | [] => fun d => Nat.le_refl _
 |x :: l => fun d => by
  have h1 := grows_unlink x d
  have h2 := grows_unlinks l (unlinkD d x).1
  dsimp only at h1
  unfold unlinksD
  split <;> omega
theorem grows_sTidy (p : Str) : Grows 0 (sTidy p) := fun d => by
 unfold sTidy
 split
 ·exact Nat.le_refl _
 ·exact grows_unlinks _ d
end Sf
namespace Rf
open Vd
open Go.Maps
section
variable {L : List Nat} {W w w' : World} {g m : Nat} {d d' : Dsk} {r : RDsk} {k k' c : Nat} {S M : Nat → Prop}
theorem dr_new (cap : Int) : DR ⟨cap, [], [], [], [], false, 0, (-1, 0), (-1, 0)⟩ (rd0 cap) 0 :=
 have hnil : NmsOk [] 0 := ⟨List.Pairwise.nil, fun a ha => absurd ha (List.not_mem_nil), fun p hp => absurd hp (List.not_mem_nil)⟩
 {room := rfl, off := rfl, count := rfl, seen := rfl, sure := rfl, flen := rfl
  files := fun i x hx => by cases hx
  fail := trap_none _, code := fun h => absurd h neg_one, crash := trap_none _, wl := rfl
  turns := fun j => by simp [goneR, goneD, rd0]
  now := rfl
  made := fun i hi => absurd hi (Nat.not_lt_zero i)
  file := fun t ht => absurd ht (List.not_mem_nil)
  ok := hnil, oku := hnil
  sb := fun p hp => absurd hp (List.not_mem_nil)
  mb := fun p hp => absurd hp (List.not_mem_nil)
  mv := fun p hp => absurd hp (List.not_mem_nil)
  nl := fun p hp => absurd hp (List.not_mem_nil)
  nu := fun p hp => absurd hp (List.not_mem_nil)
  nv := fun p hp => absurd hp (List.not_mem_nil)
  c0 := Int.le_refl _, c1 := Int.le_refl _ }
/-- the traps are set alike -/
theorem dr_fail (h : DR d r c) (n e : Int) (hc : c ≤ 1000000000000) : DR { d with fail := failT n e } { r with fail := failingR n e, err := e } c :=
 {h with
  fail := by
   show TrapR (failT n e).1 (failingR n e) r.calls
   have h0 := h.c0
   have h1 := h.count
   unfold failT failingR
   by_cases h11 : e = 11
   ·rw [if_pos h11, if_pos h11, setT_ok]
    exact trap_none _
   ·rw [if_neg h11, if_neg h11]
    unfold setT armR
    by_cases hn : n < 0
    ·rw [if_pos (.inl hn), if_pos (.inl hn)]
     exact trap_none _
    ·by_cases he : e = 0
     ·rw [if_pos (.inr (.inr he)), if_pos (.inr he)]
      exact trap_none _
     ·by_cases hf : 4611686018427387904 ≤ n
      ·rw [if_pos (.inr (.inl hf)), if_neg (by omega)]
       exact .inr ⟨rfl, by omega⟩
      ·rw [if_neg (by omega), if_neg (by omega)]
       exact .inl ⟨rfl, by show -1 ≤ n; omega, by show n ≤ _; omega⟩
  code := fun hh => by
   have hh : 0 ≤ (failT n e).1 := hh
   show (failT n e).2 = e
   unfold failT setT at hh ⊢
   by_cases h11 : e = 11
   ·rw [if_pos h11, if_pos (.inr (.inr rfl))] at hh
    exact absurd hh neg_one
   ·rw [if_neg h11] at hh ⊢
    split at hh
    ·exact absurd hh neg_one
    ·rw [if_neg ‹_›] }
theorem dr_crash (h : DR d r c) (n : Int) : DR { d with crash := setT n 11 } { r with crash := armR n 11 } c :=
 {h with
  crash := by
   show TrapR (setT n 11).1 (armR n 11) r.calls
   have h0 := h.c0
   have h1 := h.count
   unfold setT armR
   by_cases hn : n < 0
   ·rw [if_pos (.inl hn), if_pos (.inl hn)]
    exact trap_none _
   ·by_cases hf : 4611686018427387904 ≤ n
    ·rw [if_pos (.inr (.inl hf)), if_neg (by omega)]
     exact .inr ⟨rfl, by omega⟩
    ·rw [if_neg (by omega), if_neg (by omega)]
     exact .inl ⟨rfl, by show -1 ≤ n; omega, by show n ≤ _; omega⟩ }
end
end Rf
end Go.Proofs.YtcleakjjefmmbaaGreat
