/- Several texts in one: SfShelf, SfNames, SfTidy. -/
import Derived.Shelf.SlIter.Nil
import Derived.Shelf.SortM.Plain
import Derived.Shelf.SortM.SortNone
import Derived.Test.YtklbemkafdccgaaGreatProg
import Derived.Test.YtklbemkafdccgaaGreatK43
import Derived.Test.YtklbemkafdccgaaGreatK46
import Derived.Test.YtklbemkafdccgaaGreatK02
/- The shelf's contracts at this seat: maps.Keys, slices.Sorted, slices.Sort at string keys. -/
namespace Go.Proofs
open Go.Shelf
def Tryz.keysNam_ren : Go.Shelf.Ren := ⟨fun | 7 => 172 | 10 => 214 | n => n, fun | 23 => 128 | 26 => 9 | 3 => 3 | 28 => 175 | 0 => 0 | 27 => 174 | 33 => 27 | 4 => 4 | n => n, fun | n => n⟩
theorem Tryz.keysNam : Go.Proofs.SlLaysZ.n7 Tryz.prog Tryz.keysNam_ren := {
 mixed := by kernel_rfl
 f7 := ⟨Tryz.f172.name, by decide, Tryz.func172.trans (congrArg some (by kernel_rfl))⟩
 f10 := ⟨Tryz.f214.name, by decide, Tryz.func214.trans (congrArg some (by kernel_rfl))⟩
 t0 := Tryz.underlying0
 a0 := Tryz.isAgg0
 z0 := Tryz.sizeOf0
 v0 := Tryz.zeroValue0
 t4 := Tryz.underlying4
 a4 := Tryz.isAgg4
 z4 := Tryz.sizeOf4
 v4 := Tryz.zeroValue4
 t23 := Tryz.underlying128
 a23 := Tryz.isAgg128
 z23 := Tryz.sizeOf128
 v23 := Tryz.zeroValue128
 t26 := Tryz.underlying9
 a26 := Tryz.isAgg9
 z26 := Tryz.sizeOf9
 v26 := Tryz.zeroValue9
 t27 := Tryz.underlying174
 a27 := Tryz.isAgg174
 z27 := Tryz.sizeOf174
 v27 := Tryz.zeroValue174
 t28 := Tryz.underlying175
 a28 := Tryz.isAgg175
 z28 := Tryz.sizeOf175
 v28 := Tryz.zeroValue175
 t33 := Tryz.underlying27
 a33 := Tryz.isAgg27
 z33 := Tryz.sizeOf27
 v33 := Tryz.zeroValue27 }
def Tryz.sortedStr_ren : Go.Shelf.Ren := ⟨fun | 6 => 103 | 8 => 159 | 9 => 160 | 11 => 198 | 13 => 169 | 12 => 199 | 23 => 210 | 24 => 211 | 14 => 231 | 15 => 232 | 16 => 233 | 17 => 234 | 18 => 235 | 19 => 236 | 20 => 237 | 21 => 238 | 22 => 239 | 25 => 252 | 26 => 241 | 27 => 242 | 28 => 253 | 29 => 254 | 30 => 255 | 31 => 259 | n => n, fun | 26 => 9 | 28 => 175 | 24 => 37 | 0 => 0 | 3 => 3 | 37 => 183 | 48 => 196 | 50 => 105 | 4 => 4 | 40 => 260 | 39 => 259 | 45 => 125 | 5 => 5 | 9 => 9 | 51 => 285 | 55 => 245 | 57 => 302 | 58 => 303 | 33 => 27 | n => n, fun | n => n⟩
theorem Tryz.sortedStr : Go.Proofs.SlLaysZ.n6 Tryz.prog Tryz.sortedStr_ren := {
 mixed := by kernel_rfl
 f6 := ⟨Tryz.f103.name, by decide, Tryz.func103.trans (congrArg some (by kernel_rfl))⟩
 f8 := ⟨Tryz.f159.name, by decide, Tryz.func159.trans (congrArg some (by kernel_rfl))⟩
 f11 := ⟨Tryz.f198.name, by decide, Tryz.func198.trans (congrArg some (by kernel_rfl))⟩
 t0 := Tryz.underlying0
 a0 := Tryz.isAgg0
 z0 := Tryz.sizeOf0
 v0 := Tryz.zeroValue0
 t24 := Tryz.underlying37
 a24 := Tryz.isAgg37
 z24 := Tryz.sizeOf37
 v24 := Tryz.zeroValue37
 t26 := Tryz.underlying9
 a26 := Tryz.isAgg9
 z26 := Tryz.sizeOf9
 v26 := Tryz.zeroValue9
 t28 := Tryz.underlying175
 a28 := Tryz.isAgg175
 z28 := Tryz.sizeOf175
 v28 := Tryz.zeroValue175
 i26 := by kernel_rfl }
def Tryz.sortStr_ren : Go.Shelf.Ren := ⟨fun | 6 => 160 | 8 => 169 | 9 => 199 | 19 => 210 | 20 => 211 | 21 => 231 | 22 => 232 | 23 => 233 | 24 => 234 | 25 => 235 | 26 => 236 | 27 => 237 | 28 => 238 | 29 => 239 | 36 => 252 | 31 => 241 | 32 => 242 | 37 => 253 | 38 => 254 | 39 => 255 | 41 => 259 | n => n, fun | 27 => 37 | 29 => 9 | 3 => 3 | 32 => 183 | 26 => 37 | 0 => 0 | 44 => 196 | 46 => 105 | 4 => 4 | 36 => 260 | 35 => 259 | 41 => 125 | 5 => 5 | 9 => 9 | 53 => 285 | 57 => 245 | 63 => 302 | 64 => 303 | n => n, fun | n => n⟩
theorem Tryz.sortStr : Go.Proofs.SlLaysM.n6 Tryz.prog Tryz.sortStr_ren := {
 mixed := by kernel_rfl
 f6 := ⟨Tryz.f160.name, by decide, Tryz.func160.trans (congrArg some (by kernel_rfl))⟩
 f8 := Tryz.func169.trans (congrArg some (by kernel_rfl))
 f9 := ⟨Tryz.f199.name, by decide, Tryz.func199.trans (congrArg some (by kernel_rfl))⟩
 f19 := Tryz.func210.trans (congrArg some (by kernel_rfl))
 f20 := Tryz.func211.trans (congrArg some (by kernel_rfl))
 f21 := ⟨Tryz.f231.name, by decide, Tryz.func231.trans (congrArg some (by kernel_rfl))⟩
 f22 := ⟨Tryz.f232.name, by decide, Tryz.func232.trans (congrArg some (by kernel_rfl))⟩
 f23 := ⟨Tryz.f233.name, by decide, Tryz.func233.trans (congrArg some (by kernel_rfl))⟩
 f24 := ⟨Tryz.f234.name, by decide, Tryz.func234.trans (congrArg some (by kernel_rfl))⟩
 f25 := ⟨Tryz.f235.name, by decide, Tryz.func235.trans (congrArg some (by kernel_rfl))⟩
 f26 := ⟨Tryz.f236.name, by decide, Tryz.func236.trans (congrArg some (by kernel_rfl))⟩
 f27 := ⟨Tryz.f237.name, by decide, Tryz.func237.trans (congrArg some (by kernel_rfl))⟩
 f28 := ⟨Tryz.f238.name, by decide, Tryz.func238.trans (congrArg some (by kernel_rfl))⟩
 f29 := ⟨Tryz.f239.name, by decide, Tryz.func239.trans (congrArg some (by kernel_rfl))⟩
 f31 := Tryz.func241.trans (congrArg some (by kernel_rfl))
 f32 := Tryz.func242.trans (congrArg some (by kernel_rfl))
 f36 := ⟨Tryz.f252.name, by decide, Tryz.func252.trans (congrArg some (by kernel_rfl))⟩
 f37 := ⟨Tryz.f253.name, by decide, Tryz.func253.trans (congrArg some (by kernel_rfl))⟩
 f38 := ⟨Tryz.f254.name, by decide, Tryz.func254.trans (congrArg some (by kernel_rfl))⟩
 f39 := ⟨Tryz.f255.name, by decide, Tryz.func255.trans (congrArg some (by kernel_rfl))⟩
 f41 := ⟨Tryz.f259.name, by decide, Tryz.func259.trans (congrArg some (by kernel_rfl))⟩
 t0 := Tryz.underlying0
 a0 := Tryz.isAgg0
 z0 := Tryz.sizeOf0
 v0 := Tryz.zeroValue0
 t3 := Tryz.underlying3
 a3 := Tryz.isAgg3
 z3 := Tryz.sizeOf3
 v3 := Tryz.zeroValue3
 t4 := Tryz.underlying4
 a4 := Tryz.isAgg4
 z4 := Tryz.sizeOf4
 v4 := Tryz.zeroValue4
 t5 := Tryz.underlying5
 a5 := Tryz.isAgg5
 z5 := Tryz.sizeOf5
 v5 := Tryz.zeroValue5
 t9 := Tryz.underlying9
 a9 := Tryz.isAgg9
 z9 := Tryz.sizeOf9
 v9 := Tryz.zeroValue9
 t26 := Tryz.underlying37
 a26 := Tryz.isAgg37
 z26 := Tryz.sizeOf37
 v26 := Tryz.zeroValue37
 t27 := Tryz.underlying37
 a27 := Tryz.isAgg37
 z27 := Tryz.sizeOf37
 v27 := Tryz.zeroValue37
 t29 := Tryz.underlying9
 a29 := Tryz.isAgg9
 z29 := Tryz.sizeOf9
 v29 := Tryz.zeroValue9
 t32 := Tryz.underlying183
 a32 := Tryz.isAgg183
 z32 := Tryz.sizeOf183
 v32 := Tryz.zeroValue183
 t35 := Tryz.underlying259
 a35 := Tryz.isAgg259
 z35 := Tryz.sizeOf259
 v35 := Tryz.zeroValue259
 t36 := Tryz.underlying260
 a36 := Tryz.isAgg260
 z36 := Tryz.sizeOf260
 v36 := Tryz.zeroValue260
 t41 := Tryz.underlying125
 a41 := Tryz.isAgg125
 z41 := Tryz.sizeOf125
 v41 := Tryz.zeroValue125
 t44 := Tryz.underlying196
 a44 := Tryz.isAgg196
 z44 := Tryz.sizeOf196
 v44 := Tryz.zeroValue196
 t46 := Tryz.underlying105
 a46 := Tryz.isAgg105
 z46 := Tryz.sizeOf105
 v46 := Tryz.zeroValue105
 t53 := Tryz.underlying285
 a53 := Tryz.isAgg285
 z53 := Tryz.sizeOf285
 v53 := Tryz.zeroValue285
 t57 := Tryz.underlying245
 a57 := Tryz.isAgg245
 z57 := Tryz.sizeOf245
 v57 := Tryz.zeroValue245
 t63 := Tryz.underlying302
 a63 := Tryz.isAgg302
 z63 := Tryz.sizeOf302
 v63 := Tryz.zeroValue302
 t64 := Tryz.underlying303
 a64 := Tryz.isAgg303
 z64 := Tryz.sizeOf303
 v64 := Tryz.zeroValue303 }
end Go.Proofs

/- vdisk: Names, rising; how many turns and writes wait. -/
namespace Go.Proofs.YtklbemkafdccgaaGreat
open Go.RowKit Go.Sort Go.Shelf
namespace Vd
open Go.Maps
open Mbx (intD intElem intElem_inv)
theorem sortsStr (m : Nat) : AnyZ.SortsIn Tryz.prog Tryz.sortedStr_ren Fence.wide m :=
 ⟨fun blk off cap ss W hH hblk hsz => callsIn_wide.2 (AnyM.slices_Sort_string Tryz.sortStr blk off cap ss W hH hblk hsz),
  fun p cap W => callsIn_wide.2 (AnyM.slices_Sort_string_none Tryz.sortStr p cap W)⟩
theorem keysNam_any (mb : Option Nat) (W : World) : Calls Tryz.prog 172 #[.map mb] W fun e w' => e = .returned (.func (.func 214) #[] #[.pointer (some ⟨W.heap.size, 0, none⟩)]) ∧ w' = W.alloc (.cells #[.map mb] 128) :=
 (callsIn_wide (n := 5)).1 (AnyZ.keys_in Tryz.keysNam Fence.wide 5 trivial rfl mb W)
theorem sortedNam_any (b nn : Nat) (D0 : DataW Unit) (R : Value → Option (DataW Unit × List MemPlace)) (w : World) (hown : w.ownsMap Tryz.prog 9 R b nn D0) (hn : nn ≤ 1000000) :
  Calls Tryz.prog 103 #[.func (.func 214) #[] #[.pointer (some ⟨w.heap.size, 0, none⟩)]] (w.alloc (.cells #[.map (some b)] 128)) fun e w' => ∃ (v : Value) (ss : List (List UInt8)), e = .returned v ∧ ss.Perm (strKeys D0) ∧ Own w' w.heap.size 9 v ((ss.mergeSort (fun x y => decide (x ≤ y))).map encStr) ∧ Keeps w w' := by
 refine (callsIn_wide (n := 5)).1 ?_
 have hsz := hown.size_le
 have hbl := hown.lt
 have hseq : SeqGives Fence.wide 2 Tryz.prog 214 #[.pointer (some ⟨w.heap.size, 0, none⟩)] encStr (fun ss => ss.Perm (strKeys D0)) (Maps.size D0) (w.alloc (.cells #[.map (some b)] 128)) :=
  AnyZ.keys_gives (ρ := Tryz.keysNam_ren) { Tryz.keysNam with } Fence.wide _ trivial rfl (by omega) w.heap.size b nn D0 _ (by simp) (by simp) (by
   obtain ⟨es, clock, hb, Ft, hs, hD⟩ := hown
   exact ⟨es, clock, (Below.heap_alloc _ _ b hbl).trans hb, Ft, hs, hD⟩)
 have cS := AnyZ.sorted_in Tryz.sortedStr Fence.wide 5 trivial trivial trivial trivial rfl (by omega) (sortsStr _) (enters_of Tryz.func160 (by kernel_rfl) rfl) 214 #[.pointer (some ⟨w.heap.size, 0, none⟩)] trivial (enters_of Tryz.func214 (by kernel_rfl) rfl) _ _ (by unfold maxLen; omega) (by omega) _ hseq
 change CallsIn _ _ Tryz.prog 103 _ _ _ at cS
 refine cS.mono ?_
 rintro e w' ⟨v, ss, rfl, hS, hrow, hnil, hb⟩
 refine ⟨v, ss, rfl, hS, ?_, ((Below.refl _ w).alloc (Nat.le_refl _) _).trans (hb.mono (by simp))⟩
 unfold Own
 rw [show ((ss.mergeSort (fun x y => decide (x ≤ y))).map encStr).length = ss.length from by simp]
 exact ownsRow_base_a hrow (by simp)
/-- the names, as Go's strings -/
def nameV (l : Nms) : List Value := l.map fun p => Value.string (bstr p.1)
theorem sorted_names {w : World} {b nn : Nat} {D : DataW Unit} {l : Nms} (ho : w.ownsMap Tryz.prog 9 intElem b nn D) (h : ReadsN D l) {ss : List (List UInt8)} (hs : ss.Perm (strKeys D)) : (ss.mergeSort (fun x y => decide (x ≤ y))).map encStr = nameV l := by
 have hnd : (l.map (·.1)).Nodup := List.pairwise_map.2 (h.2.1.imp fun {a b} hab => str_ne hab)
 have hc : Collected D (fun _ => false) (l.map (·.1)) := ⟨hnd, fun x => by
  rw [(h.2.2 x).1]
  simp only [and_true]
  cases e : look l x with
  |none =>
   rw [look_none] at e
   simp only [List.mem_map]
   constructor
   ·rintro ⟨p, hp, rfl⟩; exact absurd rfl (e p hp)
   ·intro hh; cases hh
  |some i =>
   have := (look_mem h.2.1).1 e
   simp only [Option.isSome_some, iff_true]
   exact List.mem_map.2 ⟨_, this, rfl⟩⟩
 have hp := hc.perm ho strKeyed Tryz.underlying9 (fun _ => rfl)
 have e : ss.mergeSort (fun x y => decide (x ≤ y)) = l.map (·.1) := by
  show ss.mergeSort leB = _
  rw [mergeSort_of_perm (hs.trans hp.symm)]
  refine List.mergeSort_of_pairwise ?_
  refine List.pairwise_map.2 (h.2.1.imp fun {a b} hab => ?_)
  exact decide_eq_true (List.le_of_lt hab)
 rw [e, List.map_map]
 rfl
def namesD (d : Dsk) : Nms := if d.off then [] else d.seen
def NamesDid (W : World) (d : Dsk) (e : Ending) (w' : World) : Prop := ∃ v, e = .returned v ∧ Own w' W.heap.size 9 v (nameV (namesD d)) ∧ Keeps W w'
theorem names_any (w : World) {S : Nat → Prop} {g : Nat} {d : Dsk} (h : DiskAt w S g d) : Calls Tryz.prog 125 #[.pointer (some ⟨g, 0, none⟩)] w (NamesDid w d) := by
 obtain ⟨b1, b2, nv, mv, nb, h⟩ := h
 obtain ⟨-, -, c2, -, -, c5, -⟩ := h.cells
 obtain ⟨D, ho, hr⟩ := h.seen
 have hs1 := h.fit.s1
 unfold NamesDid
 cases hoff : d.off with
 |true =>
  rw [hoff] at c5
  have HX := Lib.hid (show namesD d = [] from by unfold namesD; rw [hoff]; rfl)
  clear ho hr h c2 hoff
  go_enter Tryz.func125, Tryz.ntmps125
  go_wp2_with fail
  go_ret
  exact ⟨_, rfl, by rw [HX.out]; exact Own.nil _ _ _, Keeps.refl _⟩
 |false =>
  rw [hoff] at c5
  have HX := Lib.hid (show namesD d = d.seen from by unfold namesD; rw [hoff]; rfl)
  have HS := Lib.hid (sortedNam_any b1 _ D intElem w ho (by omega))
  have HM := Lib.hid (fun (ss : List (List UInt8)) (hs : ss.Perm (strKeys D)) => sorted_names ho hr hs)
  clear ho hr h hoff
  go_enter Tryz.func125, Tryz.ntmps125
  go_wp2_with fail
  refine (keysNam_any _ _).mono ?_
  rintro e w2 ⟨rfl, rfl⟩
  go_wp2_with fail
  refine HS.out.mono ?_
  rintro e w3 ⟨v, ss, rfl, hss, hown, hk⟩
  have HO := Lib.hid (show Own w3 w.heap.size 9 v (nameV (namesD d)) from by rw [HX.out, ← HM.out ss hss]; exact hown)
  have HK := Lib.hid hk
  clear hown hk hss
  obtain ⟨p, n, c, rfl⟩ := HO.out.sl
  go_wp2_with fail
  go_ret
  exact ⟨_, rfl, HO.out, HK.out⟩
def waitsD (d : Dsk) : Nat × Nat := if d.off then (0, 0) else (d.moves.length, writesD d)
end Vd
end Go.Proofs.YtklbemkafdccgaaGreat

/- safe: Tidy. -/
namespace Go.Proofs.YtklbemkafdccgaaGreat
open Go.RowKit
namespace Sf
open Vd
open Rs (strV own_n rowAtV)
theorem tidyN_pre (p x : Str) : tidyN p x = (Sx.preB x p && Sx.sufB x dotN) := by
 unfold tidyN Sx.preB Sx.sufB
 have e : ∀ a b : Str, (a == b) = decide (a = b) := fun a b => by by_cases h : a = b <;> simp [h]
 rw [show dotN.length = 2 from rfl, Bool.decide_and, Bool.decide_and, e, e]
/-- what is left to be unlinked -/
def tidyF (p : Str) (l : List Str) : List Str := l.filter (tidyN p)
theorem unlinksD_cons (x : Str) (l : List Str) (d : Dsk) : unlinksD (x :: l) d = if (unlinkD d x).2 ≠ 0 then unlinkD d x else unlinksD l (unlinkD d x).1 := rfl
theorem tidyF_drop (p : Str) {l : List Str} {j : Nat} (h : j < l.length) : tidyF p (l.drop j) = if tidyN p l[j] = true then l[j] :: tidyF p (l.drop (j + 1)) else tidyF p (l.drop (j + 1)) := by
 unfold tidyF
 rw [List.drop_eq_getElem_cons h, List.filter_cons]
section
variable {S : Nat → Prop} {w1 w wb : World} {g : Nat} {d : Dsk} {k : Nat}
/-- a slice made since lies apart from the disk -/
theorem On.stayR (h : On S w1 w g d k) {e : TypeId} {v : Value} {l : List Value} (ho : Own wb w.heap.size e v l) : Stays (More S w1 w) wb v l := fun w2 hm => by
 rcases ho.2 with ⟨hv, hl⟩ | ⟨b, cap, cur, hv, hb, hgg, rest⟩
 ·have hl0 : l = [] := List.eq_nil_of_length_eq_zero hl
  subst hl0
  subst hv
  exact row_nil w2
 ·subst hv
  refine row_modsB ho.row hm (fun hh => ?_)
  have hs := h.mods.size
  rcases hh with hh | hh
  ·have := h.lt b hh
   omega
  ·omega
set_option maxRecDepth 100000 in
set_option maxHeartbeats 4000000 in
theorem stidy_on (h : On S w1 w g d k) (p : Str) (hp : p.length ≤ 1000000000) (hxl : ∀ y ∈ d.seen, y.1.length ≤ 1000000000) {N : Nat} (hN : d.seen.length ≤ N) (hk : k + N ≤ 89900) : Calls Tryz.prog 76 #[.pointer (some ⟨g, 0, none⟩), .string (bstr p)] w (Says (Tells S w1 g (sTidy p d) (k + N))) := by
 have H := Lib.hid h
 have HNM := Lib.hid (names_any w h.dsk)
 clear h
 obtain ⟨l, hl⟩ : ∃ l, l = (namesD d).map (·.1) := ⟨_, rfl⟩
 have hll : l.length ≤ N := by
  rw [hl, List.length_map]
  unfold namesD
  split
  ·exact Nat.zero_le _
  ·exact hN
 have HXL := Lib.hid (show ∀ x ∈ l, x.length ≤ 1000000000 from fun x hx => by
  rw [hl] at hx
  obtain ⟨y, hy, rfl⟩ := List.mem_map.1 hx
  unfold namesD at hy
  split at hy
  ·exact absurd hy (List.not_mem_nil)
  ·exact hxl y hy)
 have HX0 := Lib.hid (show sTidy p d = unlinksD (tidyF p l) d from by
  rw [hl]
  unfold sTidy namesD
  cases d.off <;> rfl)
 have HNV := Lib.hid (show nameV (namesD d) = l.map strV from by rw [hl, List.map_map]; rfl)
 clear hl hxl hN
 go_enter Tryz.func76, Tryz.ntmps76
 go_wp2_with fail
 refine HNM.out.mono ?_
 rintro e wb ⟨v, rfl, hown, hkb⟩
 rw [HNV.out] at hown
 have HST := Lib.hid (On.stayR H.out hown)
 obtain ⟨pn, n, cn, rfl⟩ := hown.sl
 have HNL := Lib.hid (show n = l.length from by rw [own_n hown, List.length_map])
 have hnn : n ≤ 89900 := by rw [HNL.out]; omega
 have HB := Lib.hid (H.out.base hkb)
 have HKB := Lib.hid hkb
 clear hown hkb HNM HNV
 go_wp2_with fail
 go_loopw [11] (fun ix wr => ∃ (j : Nat) (dj : Dsk), ix = .int .i64 (j : Int) ∧ j ≤ n ∧ Hid (On (More S w1 w) wb wr g dj (k + j) ∧ unlinksD (tidyF p l) d = unlinksD (tidyF p (l.drop j)) dj)) (fun ix _ => n - (RowKit.intOf ix).toNat)
 case atStart => exact ⟨0, d, rfl, Nat.zero_le _, Lib.hid ⟨HB.out, rfl⟩⟩
 case round =>
  obtain ⟨j, dj, rfl, hj, HQ⟩ := hrel
  by_cases hlt : j < n
  ·have hjl : j < l.length := by rw [← HNL.out]; exact hlt
   have hlt' : (j : Int) < (n : Int) := by omega
   obtain ⟨b, off, rfl, hcell⟩ := rowAtV (HST.out wr HQ.out.1.mods) (by rw [List.length_map]; exact hjl)
   have hcell2 : wr.cell? ⟨b, off + j, none⟩ = some (.string (bstr l[j])) := by rw [hcell]; simp [strV]
   have hsl := HXL.out _ (List.getElem_mem hjl)
   have HTS := Lib.hid (tidyF_drop p hjl)
   generalize l[j] = s at *
   have HP := Lib.hid (Sx.pre_any s p (by omega) (by omega) wr)
   have HSF := Lib.hid (show Calls Tryz.prog 127 #[.string (bstr s), .string ⟨#[46, 110]⟩] wr fun e w' => e = .returned (.bool (Sx.sufB s dotN)) ∧ wr = w' from Sx.suf_any s dotN (by omega) (by decide) wr)
   have HTN := Lib.hid (tidyN_pre p s)
   clear hcell
   cases hA : Sx.preB s p with
   |false =>
    rw [hA] at HP
    have hno : ¬ tidyN p s = true := by rw [HTN.out, hA]; simp
    have HQ2 := Lib.hid (show unlinksD (tidyF p l) d = unlinksD (tidyF p (l.drop (j + 1))) dj from by rw [HQ.out.2, HTS.out, if_neg hno])
    clear hno hA HTN HTS
    go_wp2_with fail
    refine HP.out.mono ?_
    rintro e w5 ⟨rfl, rfl⟩
    go_wp2_with fail
    go_roundw
    case rel => exact ⟨j + 1, dj, by simp, by omega, Lib.hid ⟨On.more HQ.out.1 (by omega), HQ2.out⟩⟩
    case measure =>
     simp only [RowKit.intOf]
     omega
   |true =>
    rw [hA] at HP
    cases hB : Sx.sufB s dotN with
    |false =>
     rw [hB] at HSF
     have hno : ¬ tidyN p s = true := by rw [HTN.out, hA, hB]; simp
     have HQ2 := Lib.hid (show unlinksD (tidyF p l) d = unlinksD (tidyF p (l.drop (j + 1))) dj from by rw [HQ.out.2, HTS.out, if_neg hno])
     clear hno hA hB HTN HTS
     go_wp2_with fail
     refine HP.out.mono ?_
     rintro e w5 ⟨rfl, rfl⟩
     go_wp2_with fail
     refine HSF.out.mono ?_
     rintro e w5 ⟨rfl, rfl⟩
     go_wp2_with fail
     go_roundw
     case rel => exact ⟨j + 1, dj, by simp, by omega, Lib.hid ⟨On.more HQ.out.1 (by omega), HQ2.out⟩⟩
     case measure =>
      simp only [RowKit.intOf]
      omega
    |true =>
     rw [hB] at HSF
     have hyes : tidyN p s = true := by rw [HTN.out, hA, hB]; rfl
     have HQ2 := Lib.hid (show unlinksD (tidyF p l) d = if (unlinkD dj s).2 ≠ 0 then unlinkD dj s else unlinksD (tidyF p (l.drop (j + 1))) (unlinkD dj s).1 from by rw [HQ.out.2, HTS.out, if_pos hyes, unlinksD_cons])
     have HU := Lib.hid (unlink_on HQ.out.1 (by omega) s (by unfold maxLen; omega))
     generalize unlinkD dj s = q1 at *
     obtain ⟨d1, e1⟩ := q1
     simp only at HU HQ2
     clear hyes hA hB HTN HTS
     go_wp2_with fail
     refine HP.out.mono ?_
     rintro e w5 ⟨rfl, rfl⟩
     go_wp2_with fail
     refine HSF.out.mono ?_
     rintro e w5 ⟨rfl, rfl⟩
     go_wp2_with fail
     refine HU.out.mono ?_
     rintro e w6 ⟨rfl, ho6⟩
     have HO6 := Lib.hid ho6
     clear ho6 HU HP HSF hcell2
     by_cases he : e1 = 0
     ·subst he
      have HQ3 := Lib.hid (HQ2.out.trans (if_neg (by simp)))
      go_wp2_with fail
      go_roundw
      case rel => exact ⟨j + 1, d1, by simp, by omega, Lib.hid ⟨On.more HO6.out (by omega), HQ3.out⟩⟩
      case measure =>
       simp only [RowKit.intOf]
       omega
     ·have HX : Hid (sTidy p d = (d1, e1)) := Lib.hid (HX0.out.trans (HQ2.out.trans (if_pos he)))
      have he' : (e1 != 0) = true := by simp [he]
      clear he
      go_wp2_with fail
      go_ret
      refine ⟨e1, rfl, ?_⟩
      rw [HX.out]
      exact ⟨rfl, On.more (H.out.back HKB.out HO6.out) (by omega)⟩
  ·obtain rfl : j = n := by omega
   have hlt' : decide ((j : Int) < (j : Int)) = false := by simp
   have HX : Hid (sTidy p d = (dj, 0)) := Lib.hid (by rw [HX0.out, HQ.out.2, HNL.out, List.drop_length]; rfl)
   have hjN : j ≤ N := by rw [HNL.out]; exact hll
   go_wp2_with fail
   go_ret
   refine ⟨0, rfl, ?_⟩
   rw [HX.out]
   exact ⟨rfl, On.more (H.out.back HKB.out HQ.out.1) (by omega)⟩
end
end Sf
namespace Rf
open Vd
open Go.Maps
section
variable {L : List Nat} {W w w' : World} {g m : Nat} {d d' : Dsk} {r : RDsk} {k k' : Nat} {S M : Nat → Prop}
end
end Rf
end Go.Proofs.YtklbemkafdccgaaGreat
