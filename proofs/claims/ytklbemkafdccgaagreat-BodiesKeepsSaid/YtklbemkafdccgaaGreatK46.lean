/- Several texts in one: SfSwap, SfAwake, SfBooted, SfSwPlain, SfSwRes, SfSurePlain, SfRel, SfBootPl, SfTwin, TxLog, RfDisk, RfBegin, RfUnlink, RfCreate, RfOver, RfUsed, RfWith, RfNew0, RfTwo, RsSmall, RsTidy, TxAdd, TxAwake, TxlogBytes. -/
import Derived.Test.YtklbemkafdccgaaGreatK45
import Derived.Test.YtklbemkafdccgaaGreatFrameRef
import Derived.Test.YtklbemkafdccgaaGreatK42
import Derived.Test.YtklbemkafdccgaaGreatK43
import Derived.Test.YtklbemkafdccgaaGreatK27
/- safe: Swap. -/
namespace Go.Proofs.YtklbemkafdccgaaGreat
open Go.RowKit
namespace Sf
open Vd
def dotN : Str := [46, 110]
/-- the new file is taken away, if it is there still -/
def tidyS (n : Str) (q : Dsk × Int) : Dsk × Int := if q.2 = 0 ∨ q.2 = 11 ∨ hasD q.1 n = false then q else ((sUnlink n q.1).1, q.2)
def sSwap1 (x n b : Str) (d : Dsk) : Dsk × Int := tidyS n (thenD (thenD (thenD (createD d n) (sAppend n b)) (fun d => renameD d n x)) sDir)
def sSwap (x b : Str) (d : Dsk) : Dsk × Int :=
 if 30 < x.length then (d, 3) else if hasD d (x ++ dotN) then (if (unlinkD d (x ++ dotN)).2 ≠ 0 then unlinkD d (x ++ dotN) else sSwap1 x (x ++ dotN) b (unlinkD d (x ++ dotN)).1) else sSwap1 x (x ++ dotN) b d
section
variable {S : Nat → Prop} {w1 w wb w2 w3 : World} {g : Nat} {d d2 : Dsk} {k k2 : Nat}
set_option maxRecDepth 100000 in
set_option maxHeartbeats 2000000 in
theorem sswap_on (h : On S w1 w g d k) (hk : k ≤ 89960) {x b : Str} {p0 : Option Addr} {c0 : Nat} (hx : x.length ≤ 100) (hs : Stays S w1 (.slice p0 b.length c0) (b.map u8v)) (hbl : b.length ≤ 1000000000) : Calls Tryz.prog 88 #[.pointer (some ⟨g, 0, none⟩), .string (bstr x), .slice p0 b.length c0] w (Says (Tells S w1 g (sSwap x b d) (k + 10))) := by
 have H := Lib.hid h
 have HS := Lib.hid hs
 have hsx := bstr_size x
 have HX0 : Hid (sSwap x b d = if 30 < x.length then (d, 3) else if hasD d (x ++ dotN) then (if (unlinkD d (x ++ dotN)).2 ≠ 0 then unlinkD d (x ++ dotN) else sSwap1 x (x ++ dotN) b (unlinkD d (x ++ dotN)).1) else sSwap1 x (x ++ dotN) b d) := Lib.hid rfl
 clear h hs
 go_enter Tryz.func88, Tryz.ntmps88
 go_upto_region 1 with fail
 generalize hW : World.alloc _ _ = wa
 have HB := Lib.hid (show Boxes wa w.heap.size (w.heap.size + 1) g x from by
  rw [← hW]
  exact ⟨((Blk.new _ _ _ rfl).alloc _).alloc _, (Blk.new _ _ _ (by rw [Frm.alloc_size])).alloc _⟩)
 have HR := Lib.hid (show Blk wa (w.heap.size + 1 + 1) 51 #[.slice p0 b.length c0] from by
  rw [← hW]
  exact Blk.new _ _ _ (by rw [Frm.alloc_size, Frm.alloc_size]))
 have HK := Lib.hid (show Keeps w wa from by rw [← hW]; exact (((Keeps.refl _).alloc _).alloc _).alloc _)
 clear hW
 have b1 : wa.cell? ⟨w.heap.size + 1, 0, none⟩ = some (.string (bstr x)) := by rw [HB.out.nm.cell]; rfl
 by_cases h30 : 30 < x.length
 ·have HX : Hid (sSwap x b d = (d, 3)) := Lib.hid (HX0.out.trans (if_pos h30))
  clear HX0
  go_wp2_with fail
  go_ret
  refine ⟨3, rfl, ?_⟩
  rw [HX.out]
  exact ⟨rfl, On.more (H.out.back HK.out (H.out.base HK.out)) (by omega)⟩
 ·have HX1 := Lib.hid (HX0.out.trans (if_neg h30))
  clear HX0
  obtain ⟨n, hn⟩ : ∃ n, n = x ++ dotN := ⟨_, rfl⟩
  have hnl : n.length ≤ 100 := by rw [hn]; simp [dotN]; omega
  have happ : bstr x ++ (⟨#[46, 110]⟩ : ByteArray) = bstr n := by rw [hn]; exact Frm.bstr_append x dotN
  rw [← hn] at HX1
  have hs2 : (⟨#[46, 110]⟩ : ByteArray).size = 2 := rfl
  clear hn
  go_upto_region 4 with fail
  have hnm : n.length ≤ maxLen := by unfold maxLen; omega
  generalize hW : World.alloc wa _ = wb
  have HKab := Lib.hid (show Keeps wa wb from by rw [← hW]; exact (Keeps.refl _).alloc _)
  have HNB := Lib.hid (show Blk wb wa.heap.size 9 #[.string (bstr n)] from by rw [← hW]; exact Blk.new _ _ _ rfl)
  clear hW b1 happ hs2 hsx
  have HKb := Lib.hid (HK.out.trans HKab.out)
  have HBb := Lib.hid (show Boxes wb w.heap.size (w.heap.size + 1) g x from ⟨HB.out.dp.keeps HKab.out, HB.out.nm.keeps HKab.out⟩)
  have HRb := Lib.hid (HR.out.keeps HKab.out)
  have hq0 : w.heap.size + 3 ≤ wa.heap.size := by have := HR.out.lt; omega
  obtain ⟨p, hp⟩ : ∃ p, p = w.heap.size := ⟨_, rfl⟩
  obtain ⟨q, hqe⟩ : ∃ q, q = wa.heap.size := ⟨_, rfl⟩
  rw [← hp] at HBb HRb hq0 ⊢
  rw [← hqe] at HNB hq0 ⊢
  have HPW := Lib.hid hp
  have hqb : q < wb.heap.size := HNB.out.lt
  clear hp hqe HB HR HKab
  have HOB := Lib.hid (H.out.base HKb.out)
  have HHS := Lib.hid (has_on HOB.out n hnm)
  have b0 : wb.cell? ⟨p, 0, none⟩ = some (.pointer (some ⟨g, 0, none⟩)) := by rw [HBb.out.dp.cell]; rfl
  have bn : wb.cell? ⟨q, 0, none⟩ = some (.string (bstr n)) := by rw [HNB.out.cell]; rfl
  go_wp2_with fail
  refine HHS.out.mono ?_
  rintro e w2 ⟨rfl, rfl⟩
  clear HHS
  obtain ⟨hh, hhe⟩ : ∃ hh, hh = hasD d n := ⟨_, rfl⟩
  rw [← hhe] at HX1 ⊢
  clear hhe
  go_upto_if 17 with fail
  go_cut [] (fun wx => ∃ d2 k2, Hid (On (More S w1 w) wb wx g d2 k2 ∧ k2 ≤ k + 1 ∧ sSwap x b d = sSwap1 x n b d2))
  case first =>
   cases hh with
   |false =>
    have HX2 := Lib.hid (HX1.out.trans (if_neg (by simp)))
    go_wp2_with fail
    go_meet
    exact ⟨d, k, Lib.hid ⟨HOB.out, by omega, HX2.out⟩⟩
   |true =>
    have HX2 := Lib.hid (HX1.out.trans (if_pos rfl))
    have HUL := Lib.hid (unlink_on HOB.out (by omega) n hnm)
    generalize unlinkD d n = r at *
    obtain ⟨d2, er⟩ := r
    go_wp2_with fail
    refine HUL.out.mono ?_
    rintro e w2 ⟨rfl, ho2⟩
    have HO2 := Lib.hid ho2
    clear ho2 HUL b0 bn
    by_cases he : er = 0
    ·subst he
     have HX3 := Lib.hid (HX2.out.trans (if_neg (by simp)))
     go_wp2_with fail
     go_meet
     exact ⟨d2, k + 1, Lib.hid ⟨HO2.out, Nat.le_refl _, HX3.out⟩⟩
    ·have HX3 : Hid (sSwap x b d = (d2, er)) := Lib.hid (HX2.out.trans (if_pos he))
     have he' : (er != 0) = true := by simp [he]
     clear he
     go_wp2_with fail
     go_ret
     refine ⟨er, rfl, ?_⟩
     rw [HX3.out]
     exact ⟨rfl, On.more (H.out.back HKb.out HO2.out) (by omega)⟩
  case rest =>
  obtain ⟨d2, k2, HC⟩ := hcut
  obtain ⟨w2, rfl⟩ : ∃ z : World, z = wc := ⟨_, rfl⟩
  have HO2 := Lib.hid HC.out.1
  have hk2 := HC.out.2.1
  have HX2 := Lib.hid HC.out.2.2
  clear HC HX1 b0 bn
  have HN : Hid (∀ b, p ≤ b → b < wb.heap.size → ¬ More (More S w1 w) wb w2 b) := Lib.hid (fun b h1 h2 => off_set H.out HO2.out (by have := HPW.out; omega) h2)
  have HB2 := Lib.hid (show Boxes w2 p q g n from ⟨H.out.blk HO2.out HBb.out.dp (by have := HPW.out; omega), H.out.blk HO2.out HNB.out (by have := HPW.out; omega)⟩)
  have HX2' := Lib.hid (H.out.blk HO2.out HBb.out.nm (by have := HPW.out; omega))
  have HR2 := Lib.hid (H.out.blk HO2.out HRb.out (by have := HPW.out; omega))
  go_wp2_with fail
  generalize hW : World.alloc w2 _ = w3
  have HK3 := Lib.hid (show Keeps w2 w3 from by rw [← hW]; exact (Keeps.refl _).alloc _)
  have HBB := Lib.hid (show Blk w3 w2.heap.size 187 #[cloV (147, #[], #[.pointer (some ⟨p, 0, none⟩), .pointer (some ⟨q, 0, none⟩)]), cloV (148, #[], #[.pointer (some ⟨p, 0, none⟩), .pointer (some ⟨q, 0, none⟩), .pointer (some ⟨p + 1 + 1, 0, none⟩)]), cloV (149, #[], #[.pointer (some ⟨p, 0, none⟩), .pointer (some ⟨q, 0, none⟩), .pointer (some ⟨p + 1, 0, none⟩)]), cloV (151, #[], #[.pointer (some ⟨p, 0, none⟩)])] from by
   rw [← hW]
   exact Blk.new _ _ _ rfl)
  clear hW
  have HO3 := Lib.hid (HO2.out.base HK3.out)
  have HS3 := Lib.hid ((HS.out.base H.out HKb.out).base HO2.out HK3.out)
  have HBX := Lib.hid (fun w' d' k' (ho : On (More (More S w1 w) wb w2) w3 w' g d' k') => show Boxes w' p q g n from ⟨On.kept ho (HB2.out.dp.keeps HK3.out) (HN.out _ (Nat.le_refl _) (by omega)), On.kept ho (HB2.out.nm.keeps HK3.out) (HN.out _ (by omega) hqb)⟩)
  have HST := Lib.hid (steps4_on HO3.out HBB.out (fun hy => by
    have h0 := HO2.out.mods.size
    rcases hy with hy | hy
    ·have := HO2.out.lt _ hy
     omega
    ·omega) (enters_of Tryz.func147 (by kernel_rfl) rfl _) (enters_of Tryz.func148 (by kernel_rfl) rfl _) (enters_of Tryz.func149 (by kernel_rfl) rfl _) (enters_of Tryz.func151 (by kernel_rfl) rfl _)
   (fun d => createD d n) (sAppend n b) (fun d => renameD d n x) sDir (k1 := k2 + 1) (k2 := k2 + 4) (k3 := k2 + 5) (k4 := k2 + 7) (by omega) (by omega) (by omega)
   (fun w' ho => swap1_on ho (by omega) hnl (HBX.out _ _ _ ho))
   (fun w' d' ho => swap2_on ho (by omega) hnl HS3.out hbl (HBX.out _ _ _ ho) (On.kept ho (HR2.out.keeps HK3.out) (HN.out _ (by omega) (by omega))))
   (fun w' d' ho => swap3_on ho (by omega) hnl (by omega) (HBX.out _ _ _ ho) (On.kept ho (HX2'.out.keeps HK3.out) (HN.out _ (by omega) (by omega))))
   (fun w' d' ho => swap4_on ho (by omega) (HBX.out _ _ _ ho).dp))
  have HX3 : Hid (sSwap x b d = tidyS n (thenD (thenD (thenD (createD d2 n) (sAppend n b)) (fun d => renameD d n x)) sDir)) := Lib.hid HX2.out
  generalize thenD (thenD (thenD (createD d2 n) (sAppend n b)) (fun d => renameD d n x)) sDir = qq at *
  obtain ⟨d4, eq⟩ := qq
  refine HST.out.mono ?_
  rintro e w4 ⟨c, rfl, hc, ho⟩
  have hc : c = eq := hc
  subst hc
  have HO4 := Lib.hid ho
  have HB4 := Lib.hid (HBX.out _ _ _ ho)
  clear ho HST
  have b0 : w4.cell? ⟨p, 0, none⟩ = some (.pointer (some ⟨g, 0, none⟩)) := by rw [HB4.out.dp.cell]; rfl
  have b1 : w4.cell? ⟨q, 0, none⟩ = some (.string (bstr n)) := by rw [HB4.out.nm.cell]; rfl
  by_cases h0 : c = 0
  ·subst h0
   have HX : Hid (sSwap x b d = (d4, 0)) := Lib.hid (HX3.out.trans (if_pos (.inl rfl)))
   go_wp2_with fail
   go_ret
   refine ⟨0, rfl, ?_⟩
   rw [HX.out]
   exact ⟨rfl, On.more (H.out.back HKb.out (HO2.out.back HK3.out HO4.out)) (by omega)⟩
  ·by_cases h11 : c = 11
   ·subst h11
    have HX : Hid (sSwap x b d = (d4, 11)) := Lib.hid (HX3.out.trans (if_pos (.inr (.inl rfl))))
    go_wp2_with fail
    go_ret
    refine ⟨11, rfl, ?_⟩
    rw [HX.out]
    exact ⟨rfl, On.more (H.out.back HKb.out (HO2.out.back HK3.out HO4.out)) (by omega)⟩
   ·have HH4 := Lib.hid (has_on HO4.out n hnm)
    have e1 : (c != 0) = true := by simp [h0]
    have e2 : (c != 11) = true := by simp [h11]
    cases hh4 : hasD d4 n with
    |false =>
     have HX : Hid (sSwap x b d = (d4, c)) := Lib.hid (HX3.out.trans (if_pos (.inr (.inr hh4))))
     rw [hh4] at HH4
     clear h0 h11 hh4
     go_wp2_with fail
     refine HH4.out.mono ?_
     rintro e w5 ⟨rfl, rfl⟩
     go_wp2_with fail
     go_ret
     refine ⟨c, rfl, ?_⟩
     rw [HX.out]
     exact ⟨rfl, On.more (H.out.back HKb.out (HO2.out.back HK3.out HO4.out)) (by omega)⟩
    |true =>
     have HX : Hid (sSwap x b d = ((sUnlink n d4).1, c)) := Lib.hid (HX3.out.trans (if_neg (by simp [h0, h11, hh4])))
     rw [hh4] at HH4
     have HUL := Lib.hid (sunlink_on HO4.out (by omega) n hnm)
     clear h0 h11 hh4
     go_wp2_with fail
     refine HH4.out.mono ?_
     rintro e w5 ⟨rfl, rfl⟩
     go_wp2_with fail
     refine HUL.out.mono ?_
     rintro e w5 ⟨rfl, ho5⟩
     have HO5 := Lib.hid ho5
     clear ho5 HUL b0 b1
     go_wp2_with fail
     go_ret
     refine ⟨c, rfl, ?_⟩
     rw [HX.out]
     exact ⟨rfl, On.more (H.out.back HKb.out (HO2.out.back HK3.out HO5.out)) (by omega)⟩
end
end Sf
end Go.Proofs.YtklbemkafdccgaaGreat

/- law16's awake. -/
namespace Go.Proofs.YtklbemkafdccgaaGreat
open Go.RowKit
namespace Sf
open Vd
def as1 : Dsk := (sSwap nA [120, 121] aw0).1
def as2 : Dsk := (sMake nA [] as1).1
def as3 : Dsk := (sAppend nA [122] as2).1
def as4 : Dsk := (sDrop nA as3).1
end Sf
end Go.Proofs.YtklbemkafdccgaaGreat

/- law16's booted; the disk by its shape and its traps. -/
namespace Go.Proofs.YtklbemkafdccgaaGreat
open Go.RowKit
namespace Sf
open Vd
def downD (d : Dsk) : Dsk := if d.off then d else (syncDirD { d with crash := setT 0 11 }).1
section
variable {W w : World} {g : Nat} {d : Dsk} {k : Nat}
end
/-- a disk's nodes, names and turns -/
structure Shp where
 nodes : List Nod
 seen : Nms
 sure : Nms
 moves : List Mv
def Wd (room : Int) (sh : Shp) (off : Bool) (n : Int) (f k : Int × Int) : Dsk := ⟨room, sh.nodes, sh.seen, sh.sure, sh.moves, off, n, f, k⟩
/-- the traps are as they may be: a call fails by 10 -/
structure Tr (f k : Int × Int) : Prop where
 f1 : -1 ≤ f.1
 k1 : -1 ≤ k.1
 f2 : 0 ≤ f.1 → f.2 = 10
section
variable {room : Int} {sh sh' : Shp} {n : Int} {f k : Int × Int}
/-- a call, from a shape to another one -/
def Out (room : Int) (sh sh' : Shp) (r : Dsk × Int) (f : Int × Int) : Prop := ∃ n' f' k', Tr f' k' ∧ (f.1 = -1 → f'.1 = -1) ∧ (r = (Wd room sh' false n' f' k', 0) ∨ (0 ≤ f.1 ∧ f'.1 = -1 ∧ r = (Wd room sh false n' f' k', 10)) ∨ r = (Wd room sh true n' f' k', 11))
/-- what goes well or is cut off -/
def Sure (room : Int) (sh sh' : Shp) (r : Dsk × Int) (f : Int × Int) : Prop := ∃ n' f' k', Tr f' k' ∧ (f.1 = -1 → f'.1 = -1) ∧ (r = (Wd room sh' false n' f' k', 0) ∨ r = (Wd room sh true n' f' k', 11))
/-- a call that begins with change -/
structure Begins (o : Dsk → Dsk × Int) : Prop where
 no : ∀ {d d' : Dsk} {c : Int}, changeD d = (d', c) → c ≠ 0 → o d = (d', c)
end
end Sf
end Go.Proofs.YtklbemkafdccgaaGreat

/- Swap, plain: what comes of it whatever fails. -/
namespace Go.Proofs.YtklbemkafdccgaaGreat
open Go.RowKit
namespace Sf
open Vd
def nmS : Str := [115]
def nmN : Str := [115, 46, 110]
def shA (th : Bool) (old : Str) : Shp := cond th ⟨[madeN old], [(nmS, 0)], [(nmS, 0)], []⟩ ⟨[], [], [], []⟩
def shB (th : Bool) (old : Str) : Shp := cond th ⟨[madeN old, newN], [(nmS, 0), (nmN, 1)], [(nmS, 0)], [⟨1, nmN, true⟩]⟩ ⟨[newN], [(nmN, 0)], [], [⟨0, nmN, true⟩]⟩
def shC (th : Bool) (old new : Str) : Shp := cond th ⟨[madeN old, ⟨new, [], [⟨0, new⟩], true⟩], [(nmS, 0), (nmN, 1)], [(nmS, 0)], [⟨1, nmN, true⟩]⟩ ⟨[⟨new, [], [⟨0, new⟩], true⟩], [(nmN, 0)], [], [⟨0, nmN, true⟩]⟩
def shD (th : Bool) (old new : Str) : Shp := cond th ⟨[madeN old, ⟨new, new, [], true⟩], [(nmS, 0), (nmN, 1)], [(nmS, 0)], [⟨1, nmN, true⟩]⟩ ⟨[⟨new, new, [], true⟩], [(nmN, 0)], [], [⟨0, nmN, true⟩]⟩
def shE (th : Bool) (old new : Str) : Shp := cond th ⟨[madeN old, ⟨new, new, [], true⟩], [(nmS, 1)], [(nmS, 0)], [⟨1, nmN, true⟩, ⟨1, nmS, false⟩]⟩ ⟨[⟨new, new, [], true⟩], [(nmS, 0)], [], [⟨0, nmN, true⟩, ⟨0, nmS, false⟩]⟩
def shF (th : Bool) (old new : Str) : Shp := cond th ⟨[madeN old, ⟨new, new, [], false⟩], [(nmS, 1)], [(nmS, 1)], []⟩ ⟨[⟨new, new, [], false⟩], [(nmS, 0)], [(nmS, 0)], []⟩
def shBU (th : Bool) (old : Str) : Shp := cond th ⟨[madeN old, newN], [(nmS, 0)], [(nmS, 0)], [⟨1, nmN, true⟩, ⟨1, [], false⟩]⟩ ⟨[newN], [], [], [⟨0, nmN, true⟩, ⟨0, [], false⟩]⟩
def shDU (th : Bool) (old new : Str) : Shp := cond th ⟨[madeN old, ⟨new, new, [], true⟩], [(nmS, 0)], [(nmS, 0)], [⟨1, nmN, true⟩, ⟨1, [], false⟩]⟩ ⟨[⟨new, new, [], true⟩], [], [], [⟨0, nmN, true⟩, ⟨0, [], false⟩]⟩
def oldR (th : Bool) (old : Str) : Str × Int := cond th (old, 0) ([], 7)
def RdOld (th : Bool) (old : Str) (sh : Shp) : Prop := ∀ n f k t ks, textD (bootD (Wd 100000 sh true n f k) t ks).1 nmS = oldR th old
def RdNew (new : Str) (sh : Shp) : Prop := ∀ n f k t ks, textD (bootD (Wd 100000 sh true n f k) t ks).1 nmS = (new, 0)
def RdMix (th : Bool) (old new : Str) (sh : Shp) : Prop := ∀ n f k t ks, textD (bootD (Wd 100000 sh true n f k) t ks).1 nmS = oldR th old ∨ textD (bootD (Wd 100000 sh true n f k) t ks).1 nmS = (new, 0)
section
variable {th : Bool} {old new : Str} {n : Int} {f k : Int × Int}
theorem rdA : RdOld th old (shA th old) := fun n f k t ks => by
 unfold bootD
 generalize t.toNat = m
 cases th <;> (rcases m with _ | m <;> kernel_rfl)
theorem rdF : RdNew new (shF th old new) := fun n f k t ks => by
 unfold bootD
 generalize t.toNat = m
 cases th <;> (rcases m with _ | m <;> kernel_rfl)
theorem touch_of {d d' : Dsk} {x : Str} {i : Nat} (hc : changeD d = (d', 0)) (hl : Vd.look d.seen x = some i) : touchD d x = (d', i, 0) := by
 unfold touchD findE
 rw [hc, hl, if_neg (by show ¬ (0 : Int) ≠ 0; simp)]
 rfl
end
end Sf
end Go.Proofs.YtklbemkafdccgaaGreat

/- What Swap answers, and what is read behind the boot. -/
namespace Go.Proofs.YtklbemkafdccgaaGreat
open Go.RowKit
namespace Sf
open Vd
def SwapRes (th : Bool) (old new : Str) (r : Dsk × Int) : Prop := ∃ off n f k sh, r.1 = Wd 100000 sh off n f k ∧ (r.2 = 0 ∧ RdNew new sh ∨ r.2 = 10 ∧ RdOld th old sh ∨ r.2 = 11 ∧ RdMix th old new sh)
section
variable {th : Bool} {old new : Str} {n : Int} {f k : Int × Int}
theorem thenD_go {d : Dsk} {g : Dsk → Dsk × Int} : thenD (d, 0) g = g d := thenD_ok rfl
end
end Sf
end Go.Proofs.YtklbemkafdccgaaGreat

/- Make, Append, Drop, plain, whenever the power goes. -/
namespace Go.Proofs.YtklbemkafdccgaaGreat
open Go.RowKit
namespace Sf
open Vd
theorem overL_end (a c : Str) : overL a a.length c = a ++ c := by
 apply List.ext_getElem?
 intro j
 rw [overL_get]
 by_cases h1 : j < a.length
 ·rw [if_neg (by omega), if_pos h1, List.getElem?_append_left h1]
 ·by_cases h2 : j < a.length + c.length
  ·rw [if_pos (by omega), List.getElem?_append_right (by omega)]
  ·rw [if_neg (by omega), if_neg h1, if_neg (by omega), List.getElem?_eq_none (by simp; omega)]
def uA : Shp := ⟨[], [], [], []⟩
def uB : Shp := ⟨[newN], [(nmS, 0)], [], [⟨0, nmS, true⟩]⟩
def uC (a : Str) : Shp := ⟨[⟨a, [], [⟨0, a⟩], true⟩], [(nmS, 0)], [], [⟨0, nmS, true⟩]⟩
def uD (a : Str) : Shp := ⟨[⟨a, a, [], true⟩], [(nmS, 0)], [], [⟨0, nmS, true⟩]⟩
def uF (a : Str) : Shp := ⟨[⟨a, a, [], false⟩], [(nmS, 0)], [(nmS, 0)], []⟩
def uG (a b : Str) : Shp := ⟨[⟨a ++ b, a, [⟨a.length, b⟩], false⟩], [(nmS, 0)], [(nmS, 0)], []⟩
def uU (l : Str) : Shp := ⟨[⟨l, l, [], false⟩], [], [(nmS, 0)], [⟨0, [], false⟩]⟩
def uV (l : Str) : Shp := ⟨[⟨l, l, [], false⟩], [], [], []⟩
/-- what is read behind a boot -/
def Rd (sh : Shp) (P : Str × Int → Prop) : Prop := ∀ n f k t ks, P (textD (bootD (Wd 100000 sh true n f k) t ks).1 nmS)
def Part (a : Str) (r : Str × Int) : Prop := r = ([], 7) ∨ ∃ m, m ≤ a.length ∧ r = (a.take m, 0)
section
variable {a b l : Str} {n : Int} {f k : Int × Int}
/-- what Make, Append, Drop answer, and what is read behind the boot -/
def SureRes (a b : Str) (drop : Bool) (x y z : Int) (d : Dsk) : Prop := ∃ off n f k sh, d = Wd 100000 sh off n f k ∧
 ((x = 11 ∧ y = 11 ∧ z = 11 ∧ Rd sh (fun r => Part a r)) ∨ (x = 0 ∧ y = 11 ∧ z = 11 ∧ Rd sh (fun r => ∃ m, r = (a ++ b.take m, 0)))
 ∨ (x = 0 ∧ y = 0 ∧ z = 11 ∧ drop = false ∧ Rd sh (fun r => r = (a ++ b, 0))) ∨ (x = 0 ∧ y = 0 ∧ z = 11 ∧ drop = true ∧ Rd sh (fun r => r = (a ++ b, 0) ∨ r = ([], 7))) ∨ (x = 0 ∧ y = 0 ∧ z = 0 ∧ drop = true ∧ Rd sh (fun r => r = ([], 7))))
end
end Sf
end Go.Proofs.YtklbemkafdccgaaGreat

/- The disk and the document's disk alike: a relation that each call keeps, with one answer. Plain: no program in sight. -/
namespace Go.Proofs.YtklbemkafdccgaaGreat
open Go.RowKit
namespace Vd
def filOf (x : Nod) : RFil := ⟨x.seen, x.sure, x.pats⟩
/-- a trap: set alike, or so far that no call comes to it -/
def TrapR (a b c : Int) : Prop := (a = b ∧ -1 ≤ a ∧ a ≤ 4611686018427387904) ∨ (a = -1 ∧ 4611686018427387904 ≤ b + c)
/-- the names behind so many turns -/
def goneR (sure : Nms) (ws : List RTurn) (j : Nat) : Nms := (ws.take j).foldl doR sure
def goneD (sure : Nms) (ms : List Mv) (j : Nat) : Nms := (ms.take j).foldl giveN sure
/-- names, each of a node of its own -/
structure NmsOk (l : Nms) (n : Nat) : Prop where
 asc : AscN l
 one : ∀ a ∈ l, ∀ b ∈ l, a.2 = b.2 → a = b
 lt : ∀ p ∈ l, p.2 < n
/-- a node that has a sure name, or whose Create waits -/
def basedB (d : Dsk) (i : Nat) : Bool := d.sure.any (fun p => decide (p.2 = i)) || (nodD d i).fresh
structure DR (d : Dsk) (r : RDsk) (k : Nat) : Prop where
 room : d.room = r.cap
 off : d.off = r.down
 count : d.count = r.calls
 seen : d.seen = r.now
 sure : d.sure = r.sure
 flen : r.files.length = d.nodes.length
 files : ∀ i (x : Nod), d.nodes[i]? = some x → basedB d i = true → r.files[i]? = some (filOf x)
 fail : TrapR d.fail.1 r.fail r.calls
 code : 0 ≤ d.fail.1 → d.fail.2 = r.err
 crash : TrapR d.crash.1 r.crash r.calls
 wl : r.waits.length = d.moves.length
 turns : ∀ j, goneR d.sure r.waits j = goneD d.sure d.moves j
 now : d.seen = goneD d.sure d.moves d.moves.length
 made : ∀ i, i < d.nodes.length → (nodD d i).fresh = r.waits.any (fun t => decide (t.file = (i : Int)))
 file : ∀ t ∈ r.waits, t.file < (d.nodes.length : Int)
 ok : NmsOk d.seen d.nodes.length
 oku : NmsOk d.sure d.nodes.length
 sb : ∀ p ∈ d.seen, basedB d p.2 = true
 mb : ∀ m ∈ d.moves, basedB d m.node = true
 mv : ∀ m ∈ d.moves, m.node < d.nodes.length
 nl : ∀ p ∈ d.seen, p.1.length ≤ 32
 nu : ∀ p ∈ d.sure, p.1.length ≤ 32
 nv : ∀ m ∈ d.moves, m.name.length ≤ 32
 c0 : 0 ≤ d.count
 c1 : d.count ≤ k
/-- one call of each disk -/
def DAlike (j : Nat) (f : Dsk → Dsk × Int) (g : RDsk → RDsk × Int) : Prop := ∀ d r k, k + j ≤ 1000000000000 → DR d r k → (f d).2 = (g r).2 ∧ DR (f d).1 (g r).1 (k + j)
theorem DR.more {d : Dsk} {r : RDsk} {k k' : Nat} (h : DR d r k) (hk : k ≤ k') : DR d r k' := { h with c1 := by have := h.c1; omega }
/-! ### Turns -/
theorem nms_drop {l : Nms} {n : Nat} (h : NmsOk l n) (i : Nat) : NmsOk (dropN l i) n :=
 ⟨ascN_drop h.asc i, fun a ha b hb => h.one a (List.mem_filter.1 ha).1 b (List.mem_filter.1 hb).1, fun p hp => h.lt p (List.mem_filter.1 hp).1⟩
theorem nms_give {l : Nms} {n : Nat} (h : NmsOk l n) {m : Mv} (hm : m.node < n) : NmsOk (giveN l m) n := by
 unfold giveN
 by_cases hn : m.name = []
 ·rw [if_pos hn]
  exact nms_drop h _
 ·rw [if_neg hn]
  have hd := nms_drop h m.node
  have hne : ∀ p ∈ dropN l m.node, p.2 ≠ m.node := fun p hp => by simpa [dropN] using (List.mem_filter.1 hp).2
  have hmem : ∀ p ∈ putN (dropN l m.node) m.name m.node, p ∈ dropN l m.node ∨ p = (m.name, m.node) := fun p hp => by
   unfold putN at hp
   rcases List.mem_append.1 hp with hp | hp
   ·exact .inl (List.mem_filter.1 hp).1
   ·rcases List.mem_cons.1 hp with rfl | hp
    ·exact .inr rfl
    ·exact .inl (List.mem_filter.1 hp).1
  refine ⟨ascN_put hd.asc _ _, fun a ha b hb e => ?_, fun p hp => ?_⟩
  ·rcases hmem a ha with ha | rfl <;> rcases hmem b hb with hb | rfl
   ·exact hd.one a ha b hb e
   ·exact absurd e (hne a ha)
   ·exact absurd e.symm (hne b hb)
   ·rfl
  ·rcases hmem p hp with hp | rfl
   ·exact hd.lt p hp
   ·exact hm
theorem NmsOk.more {l : Nms} {n n' : Nat} (h : NmsOk l n) (hn : n ≤ n') : NmsOk l n' := ⟨h.asc, h.one, fun p hp => Nat.lt_of_lt_of_le (h.lt p hp) hn⟩
theorem NmsOk.len {l : Nms} {n : Nat} (h : NmsOk l n) : l.length ≤ n := by
 have h1 : (l.map (·.2)).Nodup := by
  refine List.pairwise_map.2 (h.asc.imp_of_mem fun {a b} ha hb hab e => ?_)
  have := h.one a ha b hb e
  subst this
  exact str_irrefl _ hab
 have h2 := h1.length_le_of_subset (l₂ := List.range n) (fun i hi => by
  obtain ⟨p, hp, rfl⟩ := List.mem_map.1 hi
  exact List.mem_range.2 (h.lt p hp))
 simpa using h2
theorem NmsOk.gone {l : Nms} {n : Nat} (h : NmsOk l n) {ms : List Mv} (hm : ∀ m ∈ ms, m.node < n) (j : Nat) : NmsOk (goneD l ms j) n := by
 unfold goneD
 have hm' : ∀ m ∈ ms.take j, m.node < n := fun m hh => hm m (List.mem_of_mem_take hh)
 generalize ms.take j = ms' at hm'
 induction ms' generalizing l with
 |nil => exact h
 |cons m ms' ih => exact ih (nms_give h (hm' m (List.mem_cons_self ..))) (fun x hx => hm' x (List.mem_cons_of_mem _ hx))
end Vd
end Go.Proofs.YtklbemkafdccgaaGreat

/- Boot of the two disks: one answer, and alike behind it; how many writes wait. Plain. -/
namespace Go.Proofs.YtklbemkafdccgaaGreat
open Go.RowKit
namespace Vd
/-- how many writes wait -/
def writesD (d : Dsk) : Nat := ((knownL d).map fun i => (nodD d i).pats.length).sum
end Vd
end Go.Proofs.YtklbemkafdccgaaGreat

/- safe's calls on both disks: one answer, and alike behind it. Plain. -/
namespace Go.Proofs.YtklbemkafdccgaaGreat
open Go.RowKit
namespace Sf
open Vd
def twiceR (f : RDsk → RDsk × Int) (r : RDsk) : RDsk × Int := if (f r).2 = 0 ∨ (f r).2 = 11 then f r else f (f r).1
def thenR (q : RDsk × Int) (f : RDsk → RDsk × Int) : RDsk × Int := if q.2 = 0 then f q.1 else q
def hasR (r : RDsk) (x : Str) : Bool := !r.down && (Vd.look r.now x).isSome
def rSync (x : Str) : RDsk → RDsk × Int := twiceR (fun r => syncR r x)
def rDir : RDsk → RDsk × Int := twiceR syncDirR
def rUnlink (x : Str) : RDsk → RDsk × Int := twiceR (fun r => unlinkR r x)
def rAppend (x b : Str) (r : RDsk) : RDsk × Int := thenR (appendR r x b) (rSync x)
def tidyR0 (x : Str) (q : RDsk × Int) : RDsk × Int := if q.2 = 0 ∨ q.2 = 11 then q else ((rUnlink x q.1).1, q.2)
def rMake (x b : Str) (r : RDsk) : RDsk × Int :=
 if hasR r x then (r, 8) else if (createR r x).2 ≠ 0 then createR r x
 else tidyR0 x (thenR (rAppend x b (createR r x).1) rDir)
def rDrop (x : Str) (r : RDsk) : RDsk × Int := if r.down = false ∧ hasR r x = false then (r, 0) else thenR (unlinkR r x) rDir
def tidyR (n : Str) (q : RDsk × Int) : RDsk × Int := if q.2 = 0 ∨ q.2 = 11 ∨ hasR q.1 n = false then q else ((rUnlink n q.1).1, q.2)
def rSwap1 (x n b : Str) (r : RDsk) : RDsk × Int := tidyR n (thenR (thenR (thenR (createR r n) (rAppend n b)) (fun r => renameR r n x)) rDir)
def rSwap (x b : Str) (r : RDsk) : RDsk × Int :=
 if 30 < x.length then (r, 3) else if hasR r (x ++ dotN) then (if (unlinkR r (x ++ dotN)).2 ≠ 0 then unlinkR r (x ++ dotN) else rSwap1 x (x ++ dotN) b (unlinkR r (x ++ dotN)).1) else rSwap1 x (x ++ dotN) b r
/-- names that begin and end so -/
def tidyN (p x : Str) : Bool := decide (p.length ≤ x.length ∧ x.take p.length = p) && decide (2 ≤ x.length ∧ x.drop (x.length - 2) = dotN)
def unlinksD : List Str → Dsk → Dsk × Int
 | [], d => (d, 0)
 |x :: l, d => if (unlinkD d x).2 ≠ 0 then unlinkD d x else unlinksD l (unlinkD d x).1
def unlinksR : List Str → RDsk → RDsk × Int
 | [], r => (r, 0)
 |x :: l, r => if (unlinkR r x).2 ≠ 0 then unlinkR r x else unlinksR l (unlinkR r x).1
def tidyL (p : Str) (l : Nms) : List Str := (l.map (·.1)).filter (tidyN p)
def sTidy (p : Str) (d : Dsk) : Dsk × Int := if d.off then (d, 0) else unlinksD (tidyL p d.seen) d
def rTidy (p : Str) (r : RDsk) : RDsk × Int := if r.down then (r, 0) else unlinksR (tidyL p r.now) r

end Sf
end Go.Proofs.YtklbemkafdccgaaGreat

/- A log in memory; txlog.Open, Add, Len, Whole, Name. -/
namespace Go.Proofs.YtklbemkafdccgaaGreat
open Go.RowKit
namespace Txl
open Vd
/-- a disk beside a law's world; the blocks L are none of its -/
structure One (L : List Nat) (W w : World) (g : Nat) (d : Dsk) (k : Nat) (S : Nat → Prop) : Prop where
 dsk : DiskAt w S g d
 ls : ∀ y, S y → W.heap.size ≤ y ∧ y < w.heap.size ∧ y ∉ L
 ll : ∀ y ∈ L, y < w.heap.size
 keep : Keeps W w
 few : Few d k
def OneAt (L : List Nat) (W w : World) (g : Nat) (d : Dsk) (k : Nat) : Prop := ∃ S, One L W w g d k S
section
variable {L : List Nat} {W w wb w' : World} {g : Nat} {d d' : Dsk} {k k' : Nat} {S : Nat → Prop}
theorem One.keeps (h : One L W w g d k S) (hk : Keeps w w') : One L W w' g d k S :=
 ⟨h.dsk.keeps hk, fun y hy => ⟨(h.ls y hy).1, Nat.lt_of_lt_of_le (h.ls y hy).2.1 hk.size, (h.ls y hy).2.2⟩, fun y hy => Nat.lt_of_lt_of_le (h.ll y hy) hk.size, h.keep.trans hk, h.few⟩
theorem OneAt.keeps (h : OneAt L W w g d k) (hk : Keeps w w') : OneAt L W w' g d k := let ⟨_, h⟩ := h; ⟨_, h.keeps hk⟩
theorem OneAt.more (h : OneAt L W w g d k) (hk : k ≤ k') : OneAt L W w g d k' := let ⟨_, h⟩ := h; ⟨_, { h with few := h.few.mono hk }⟩
theorem OneAt.kp (h : OneAt L W w g d k) : Keeps W w := let ⟨_, h⟩ := h; h.keep
theorem OneAt.fw (h : OneAt L W w g d k) : Few d k := let ⟨_, h⟩ := h; h.few
theorem OneAt.lt (h : OneAt L W w g d k) : ∀ y ∈ L, y < w.heap.size := let ⟨_, h⟩ := h; h.ll
theorem OneAt.aside (h : OneAt L W w g d k) (hk : Keeps w w') {b : Nat} (hb : w.heap.size ≤ b) (hb' : b < w'.heap.size) : OneAt (b :: L) W w' g d k := by
 obtain ⟨S, h⟩ := h
 have h2 := h.keeps hk
 refine ⟨S, { h2 with ls := fun y hy => ⟨(h2.ls y hy).1, (h2.ls y hy).2.1, fun hh => ?_⟩, ll := fun y hy => ?_ }⟩
 ·have := (h.ls y hy).2.1
  rcases List.mem_cons.1 hh with e | e
  ·omega
  ·exact (h.ls y hy).2.2 e
 ·rcases List.mem_cons.1 hy with rfl | e
  ·exact hb'
  ·exact h2.ll y e
theorem OneAt.drop {L' : List Nat} (h : OneAt L W w g d k) (hl : ∀ y ∈ L', y ∈ L) : OneAt L' W w g d k := by
 obtain ⟨S, h⟩ := h
 exact ⟨S, { h with ls := fun y hy => ⟨(h.ls y hy).1, (h.ls y hy).2.1, fun hh => (h.ls y hy).2.2 (hl y hh)⟩, ll := fun y hy => h.ll y (hl y hy) }⟩
theorem One.on (h : One L W w g d k S) : On S w w g d k := ⟨h.dsk.wide (fun y hy => .inl hy), Mods.refl _ _, h.few, fun y hy => (h.ls y hy).2.1⟩
/-- what a call leaves -/
def OneRest (L : List Nat) (W w : World) (g : Nat) (d : Dsk) (k : Nat) (w' : World) : Prop := OneAt L W w' g d k ∧ Mods (fun y => W.heap.size ≤ y ∧ y ∉ L) w w'
theorem One.rest (h : One L W w g d k S) (ho : On S w w' g d' k') : OneRest L W w g d' k' w' := by
 have hs := ho.mods.size
 have hk := h.keep.size
 refine ⟨⟨More S w w', ho.dsk, fun y hy => ?_, fun y hy => Nat.lt_of_lt_of_le (h.ll y hy) hs, ho.mods.keeps h.keep (fun y hy => (h.ls y hy).1), ho.few⟩, ho.mods.mono (fun y hy => ⟨(h.ls y hy).1, (h.ls y hy).2.2⟩)⟩
 rcases hy with hy | hy
 ·have := h.ls y hy
  exact ⟨this.1, by omega, this.2.2⟩
 ·exact ⟨by omega, hy.2, fun hh => by have := h.ll y hh; omega⟩
theorem At.one (h : At W w g d k) : OneAt [] W w g d k := ⟨_, h.dsk, fun y hy => ⟨hy.1, hy.2, List.not_mem_nil⟩, fun y hy => absurd hy (List.not_mem_nil), h.keep, h.few⟩
theorem OneAt.read (h : OneAt L W w g d k) (x : Str) (hx : x.length ≤ maxLen) : Calls Tryz.prog 79 #[.pointer (some ⟨g, 0, none⟩), .string (bstr x)] w (Vd.ReadDid w (textD d x)) := by
 obtain ⟨S, h⟩ := h
 exact Vd.read_any w h.dsk x hx
theorem OneAt.make (h : OneAt L W w g d k) (hk : k ≤ 89970) {x b : Str} {p0 : Option Addr} {c0 : Nat} (hx : x.length ≤ 100) (hs : ∀ T w', (∀ y, T y → W.heap.size ≤ y ∧ y ∉ L) → Mods T w w' → Row w' (.slice p0 b.length c0) (b.map u8v)) (hbl : b.length ≤ 1000000000) : Calls Tryz.prog 78 #[.pointer (some ⟨g, 0, none⟩), .string (bstr x), .slice p0 b.length c0] w fun e w' => e = .returned (.int .i64 (Sf.sMake x b d).2) ∧ OneRest L W w g (Sf.sMake x b d).1 (k + 8) w' := by
 obtain ⟨S, h⟩ := h
 refine (Sf.smake_on h.on hk hx (fun w2 hm => hs S w2 (fun y hy => ⟨(h.ls y hy).1, (h.ls y hy).2.2⟩) hm) hbl).mono ?_
 rintro e w' ⟨c, rfl, rfl, ho⟩
 exact ⟨rfl, h.rest ho⟩
theorem OneAt.append (h : OneAt L W w g d k) (hk : k ≤ 89980) {x b : Str} {p0 : Option Addr} {c0 : Nat} (hx : x.length ≤ maxLen) (hs : ∀ T w', (∀ y, T y → W.heap.size ≤ y ∧ y ∉ L) → Mods T w w' → Row w' (.slice p0 b.length c0) (b.map u8v)) (hbl : b.length ≤ 1000000000) : Calls Tryz.prog 82 #[.pointer (some ⟨g, 0, none⟩), .string (bstr x), .slice p0 b.length c0] w fun e w' => e = .returned (.int .i64 (Sf.sAppend x b d).2) ∧ OneRest L W w g (Sf.sAppend x b d).1 (k + 3) w' := by
 obtain ⟨S, h⟩ := h
 refine (Sf.sappend_on h.on hk hx (fun w2 hm => hs S w2 (fun y hy => ⟨(h.ls y hy).1, (h.ls y hy).2.2⟩) hm) hbl).mono ?_
 rintro e w' ⟨c, rfl, rfl, ho⟩
 exact ⟨rfl, h.rest ho⟩
end
/-- a log: its disk, its name, how many transactions it has, whether that is all -/
def logA (g : Nat) (x : Str) (n : Nat) (whole : Bool) : Array Value := #[.pointer (some ⟨g, 0, none⟩), .string (bstr x), .int .i64 (n : Int), .bool whole]
/-- what Open makes of a disk: the disk, the error, the bytes that are replayed -/
def openD (d : Dsk) (x : Str) : Dsk × Int × Str :=
 if (textD d x).2 = 7 then ((Sf.sMake x [] d).1, (Sf.sMake x [] d).2, (textD d x).1) else (d, (textD d x).2, (textD d x).1)
def rep (s : Str) : List (Nat × List Item) × Int := replayF (Frm.rowR s).1
end Txl
end Go.Proofs.YtklbemkafdccgaaGreat

/- The document's disk in memory; begin, Find, Failing, Arm. -/
namespace Go.Proofs.YtklbemkafdccgaaGreat
open Go.RowKit
namespace Rf
open Vd
def trC (t : RTurn) : List Value := (trA t).toList
def wrC (p : Pat) : List Value := [.int .i64 (p.place : Int), .string (bstr p.b)]
def filC (f : RFil × Value) : List Value := [.string (bstr f.1.now), .string (bstr f.1.sure), f.2]
def rdA (d : RDsk) (fv nv sv wv : Value) : Array Value := #[fv, nv, sv, wv, .int .i64 d.cap, .bool d.down, .int .i64 d.calls, .int .i64 d.fail, .int .i64 d.crash, .int .i64 d.err]
/-- bounds of the document's disk -/
structure RFit (d : RDsk) (k : Nat) : Prop where
 f : d.files.length ≤ k
 n : d.now.length ≤ k
 s : d.sure.length ≤ k
 w : d.waits.length ≤ k
 p : ∀ x ∈ d.files, x.waits.length ≤ k
 b : ∀ x ∈ d.files, x.now.length ≤ 1000000000 ∧ x.sure.length ≤ 1000000000
 c0 : 0 ≤ d.calls
 c1 : d.calls ≤ k
 t1 : -1 ≤ d.fail ∧ d.fail ≤ 9223372036854775807
 t2 : -1 ≤ d.crash ∧ d.crash ≤ 9223372036854775807
 an : AscN d.now
 au : AscN d.sure
 is : ∀ p ∈ d.now, p.2 < d.files.length
 cap : 1 ≤ d.cap ∧ d.cap ≤ 4194304
section
variable {w w' : World} {M : Nat → Prop} {m : Nat} {fv nv sv wv : Value} {fw : List Value} {d : RDsk} {k : Nat}
end
end Rf
end Go.Proofs.YtklbemkafdccgaaGreat

/- The document's disk: begin. -/
namespace Go.Proofs.YtklbemkafdccgaaGreat
open Go.RowKit
namespace Rf
open Vd
theorem RFit.more {d : RDsk} {k k' : Nat} (h : RFit d k) (hk : k ≤ k') : RFit d k' :=
 {h with f := Nat.le_trans h.f hk, n := Nat.le_trans h.n hk, s := Nat.le_trans h.s hk, w := Nat.le_trans h.w hk, p := fun x hx => Nat.le_trans (h.p x hx) hk, c1 := by have := h.c1; omega }
/-- a call that changes, as it was counted -/
def begun (d : RDsk) : RDsk := { d with calls := d.calls + 1, crash := tickR d.crash, fail := tickR d.fail }
end Rf
end Go.Proofs.YtklbemkafdccgaaGreat

/- The document's disk: Find, Unlink, SyncDir, Arm, Failing. -/
namespace Go.Proofs.YtklbemkafdccgaaGreat
open Go.RowKit
namespace Rf
open Vd
section
variable {w : World} {M : Nat → Prop} {m : Nat} {d : RDsk} {k : Nat}
def armR (n e : Int) : Int := if n < 0 ∨ e = 0 then -1 else n
def failingR (n e : Int) : Int := if e = 11 then -1 else armR n e
end
end Rf
end Go.Proofs.YtklbemkafdccgaaGreat

/- The document's disk: Create. -/
namespace Go.Proofs.YtklbemkafdccgaaGreat
open Go.RowKit
namespace Rf
open Vd
def bornR (d : RDsk) : RDsk := { d with files := d.files ++ [filR0] }
section
variable {w : World} {M : Nat → Prop} {m : Nat} {d : RDsk} {k : Nat}
end
end Rf
end Go.Proofs.YtklbemkafdccgaaGreat

/- The document's disk: noughts, over. -/
namespace Go.Proofs.YtklbemkafdccgaaGreat
open Go.RowKit
namespace Rf
open Vd
/-- a text, made as long as a place -/
def longL (s : Str) (a : Nat) : Str := s ++ List.replicate (a - s.length) 0
end Rf
end Go.Proofs.YtklbemkafdccgaaGreat

/- The document's disk: Used. -/
namespace Go.Proofs.YtklbemkafdccgaaGreat
open Go.RowKit
namespace Rf
open Vd
section
variable {w : World} {M : Nat → Prop} {m : Nat} {fv nv sv wv : Value} {fw : List Value} {d : RDsk} {k : Nat}
def fLen (files : List RFil) (i : Nat) : Nat := ((files[i]?).map (·.now.length)).getD 0
end
end Rf
end Go.Proofs.YtklbemkafdccgaaGreat

/- The document's disk: with. -/
namespace Go.Proofs.YtklbemkafdccgaaGreat
open Go.RowKit
namespace Rf
open Vd
def filA (f : RFil) (v : Value) : Array Value := #[.string (bstr f.now), .string (bstr f.sure), v]
def setR (d : RDsk) (i : Nat) (f : RFil) : RDsk := { d with files := d.files.set i f }
section
variable {w : World} {M : Nat → Prop} {m : Nat} {d : RDsk} {k : Nat}
end
end Rf
end Go.Proofs.YtklbemkafdccgaaGreat

/- The document's disk: New of no files. -/
namespace Go.Proofs.YtklbemkafdccgaaGreat
open Go.RowKit
namespace Rf
open Vd
def rd0 (cap : Int) : RDsk := ⟨[], [], [], [], cap, false, 0, -1, -1, 0⟩
def newR0 (cap : Int) : Option RDsk := if cap < 1 ∨ 4194304 < cap then none else some (rd0 cap)
end Rf
end Go.Proofs.YtklbemkafdccgaaGreat

/- The disk and the document's disk side by side, behind a world of the law's; blocks L that are neither's. -/
namespace Go.Proofs.YtklbemkafdccgaaGreat
open Go.RowKit
namespace Rf
open Vd
open Go.Maps
section
variable {L : List Nat} {W w wb w' : World} {g m : Nat} {d d' : Dsk} {r r' : RDsk} {k k' : Nat} {S M : Nat → Prop}
theorem Few.cnt {d : Dsk} {k : Nat} (h : Few d k) (hk : k ≤ 90000) : -1 ≤ d.count ∧ d.count ≤ 9000000000000000000 := by
 have h0 := h.c0
 have h1 := h.c1
 omega
end
end Rf
end Go.Proofs.YtklbemkafdccgaaGreat

/- ref16's bad, Sync, SyncDir, away, Has, Append, both disks side by side. (MADE BY gen_rs.py.) -/
namespace Go.Proofs.YtklbemkafdccgaaGreat
open Go.RowKit
namespace Rs
open Vd Rf Sf
open Go.Maps
def badB (c : Int) : Bool := c != 0 && c != 11
section
variable {L : List Nat} {W w : World} {g m : Nat} {d : Dsk} {r : RDsk} {k : Nat}
/-- a row that no change of the disks touches -/
def Stay2 (L : List Nat) (W w : World) (v : Value) (l : List Value) : Prop := ∀ T w', (∀ y, T y → W.heap.size ≤ y ∧ y ∉ L) → Mods T w w' → Row w' v l
theorem Stay2.row {v : Value} {l : List Value} (h : Stay2 L W w v l) : Row w v l := h (fun _ => False) w (fun _ hh => hh.elim) (Mods.refl _ _)
theorem Stay2.mods {w' : World} {v : Value} {l : List Value} (h : Stay2 L W w v l) (hm : Mods (fun y => W.heap.size ≤ y ∧ y ∉ L) w w') : Stay2 L W w' v l := fun T w2 hT hm2 => h _ w2 (fun _ hy => hy) (hm.trans hm2 (fun y hy _ => hT y hy))
end
end Rs
end Go.Proofs.YtklbemkafdccgaaGreat

/- ref16's Tidy, both disks side by side. (MADE BY gen_rstidy.py.) -/
namespace Go.Proofs.YtklbemkafdccgaaGreat
open Go.RowKit
namespace Rs
open Vd Rf Sf
open Go.Maps
def strV (x : Str) : Value := .string (bstr x)
theorem strok1 : ElemOk Tryz.prog 37 9 16 := elemOk (z := .string (bstr [])) Tryz.underlying37 (by kernel_rfl) rfl
theorem own_n {w : World} {base : Nat} {e : TypeId} {p : Option Addr} {n c : Nat} {l : List Value} (h : Own w base e (.slice p n c) l) : n = l.length := by
 obtain ⟨p', c', hv, -, -⟩ := h.row.form
 simp only [Value.slice.injEq] at hv
 exact hv.2.1
theorem rowAtV {w : World} {p : Option Addr} {n c : Nat} {l : List Value} (h : Row w (.slice p n c) l) {i : Nat} (hi : i < l.length) : ∃ b off, p = some ⟨b, off, none⟩ ∧ w.cell? ⟨b, off + i, none⟩ = some l[i] := by
 rcases h with ⟨a0, cap', hv, hl, -, -⟩ | ⟨b, off, cap', hv, -, -, hc⟩
 ·subst hl
  simp at hi
 ·simp only [Value.slice.injEq] at hv
  exact ⟨b, off, hv.1, hc i _ (List.getElem?_eq_getElem hi)⟩
section
variable {L : List Nat} {W w w1 : World} {g m : Nat} {d : Dsk} {r : RDsk} {k : Nat}
end
end Rs
end Go.Proofs.YtklbemkafdccgaaGreat

/- txlog.Add. -/
namespace Go.Proofs.YtklbemkafdccgaaGreat
open Go.RowKit
namespace Txl
open Vd
def addD (d : Dsk) (x : Str) (n : Nat) (wh : Bool) (items : List Item) : (Dsk × Nat) × Int :=
 if wh = false then ((d, n), 12)
 else if txE ((n : Int) + 1) items ≠ 0 then ((d, n), txE ((n : Int) + 1) items)
 else if (Sf.sAppend x (txL ((n : Int) + 1) items) d).2 = 0 then (((Sf.sAppend x (txL ((n : Int) + 1) items) d).1, n + 1), 0)
 else (((Sf.sAppend x (txL ((n : Int) + 1) items) d).1, n), (Sf.sAppend x (txL ((n : Int) + 1) items) d).2)
end Txl
end Go.Proofs.YtklbemkafdccgaaGreat

/- law17's awake. -/
namespace Go.Proofs.YtklbemkafdccgaaGreat
open Go.RowKit
namespace Txl
open Vd
def tb : List UInt8 := txL 1 []
def nX : Str := [120]
def ax0 : Dsk := ⟨1000, [], [], [], [], false, 0, (-1, 0), (-1, 0)⟩
def ax1 : Dsk := (openD ax0 nX).1
end Txl
end Go.Proofs.YtklbemkafdccgaaGreat

/- TxlogBytes: its walk. -/
namespace Go.Proofs.YtklbemkafdccgaaGreat
open Go.RowKit
namespace Txl
open Oct Frm
def BulkD (most : Nat) (l : List (Value × List UInt8)) (w : World) (e : Ending) (w' : World) : Prop :=
 ∃ n : Nat, e = .returned (.int .i64 (n : Int)) ∧ n ≤ 20000 ∧ (n ≤ most → ∀ x ∈ l, x.2.length ≤ most) ∧ w = w'
set_option maxRecDepth 100000 in
set_option maxHeartbeats 2000000 in
theorem bulkD_any (most : Nat) (hm : most ≤ 5000) (v : Value) (l : List (Value × List UInt8)) (w : World) (hr : Row w v (l.map (·.1))) (hp : ∀ x ∈ l, payOk w x) : Calls Tryz.prog 23 #[v, .int .i64 (most : Int)] w (BulkD most l w) := by
 obtain ⟨p, cap, rfl, hc1, hc2⟩ := hr.form
 rw [List.length_map] at hc1 ⊢
 have HR := Lib.hid hr
 have HP := Lib.hid hp
 unfold maxLen at hc2
 clear hr hp
 go_enter Tryz.func23, Tryz.ntmps23
 go_wp2_with fail
 go_loopw [5, 6] (fun nv iv wr => ∃ (n i : Nat), nv = .int .i64 (n : Int) ∧ iv = .int .i64 (i : Int) ∧ i ≤ l.length ∧ n ≤ most + most + 2 ∧ Hid (n ≤ most → ∀ x ∈ l.take i, x.2.length ≤ most) ∧ wr = w) (fun _ iv _ => l.length - (intOf iv).toNat)
 case atStart => exact ⟨0, 0, rfl, rfl, Nat.zero_le _, by omega, Lib.hid (by simp), rfl⟩
 case round =>
  obtain ⟨n, i, rfl, rfl, hi, hn, HA, rfl⟩ := hrel
  by_cases hlt : i < l.length
  ·by_cases hn1 : n ≤ most
   ·obtain ⟨b, off, cap', hv, hc⟩ := row_cells HR.out (by rw [List.length_map]; omega)
    simp only [Value.slice.injEq] at hv
    obtain ⟨rfl, -, rfl⟩ := hv
    have hcell : wr.cell? ⟨b, off + i, none⟩ = some l[i].1 := hc.out i _ (by simp [hlt])
    have hpay := HP.out l[i] (List.getElem_mem hlt)
    have HT : Hid (l.take (i + 1) = l.take i ++ [l[i]]) := Lib.hid (List.take_succ_eq_append_getElem hlt)
    generalize l[i] = y at *
    obtain ⟨yv, yl⟩ := y
    unfold payOk at hpay
    obtain ⟨q, qc, hyv, hq1, hq2⟩ := hpay.formB
    simp only at hyv hcell hq1
    subst hyv
    clear hpay hc
    by_cases hy : yl.length ≤ most + 1
    ·have hmin : min (yl.length : Int) ((most : Int) + 1) = yl.length := by omega
     go_wp2_with fail
     go_roundw
     case rel => exact ⟨n + 1 + yl.length, i + 1, by simp, by simp, by omega, by omega, Lib.hid (fun h x hx => by
      rw [HT.out] at hx
      rcases List.mem_append.1 hx with h | h
      ·exact HA.out (by omega) x h
      ·simp at h; subst h; simp only; omega), trivial⟩
     case measure => simp [intOf] <;> omega
    ·have hmin : min (yl.length : Int) ((most : Int) + 1) = (most : Int) + 1 := by omega
     go_wp2_with fail
     go_roundw
     case rel => exact ⟨n + 1 + (most + 1), i + 1, by simp; omega, by simp, by omega, by omega, Lib.hid (fun h x hx => by omega), trivial⟩
     case measure => simp [intOf] <;> omega
   ·go_wp2_with fail
    go_ret
    exact ⟨n, rfl, by omega, fun h => by omega, rfl⟩
  ·have hil : i = l.length := by omega
   have H : Hid (BulkD most l wr (.returned (.int .i64 (n : Int))) wr) := Lib.hid ⟨n, rfl, by omega, fun h x hx => HA.out h x (by rw [hil, List.take_length]; exact hx), rfl⟩
   clear hil
   by_cases hn1 : n ≤ most
   ·go_wp2_with fail
    go_ret
    exact H.out
   ·go_wp2_with fail
    go_ret
    exact H.out
def nils (n : Nat) : List (Value × List UInt8) := List.replicate n (.slice none 0 0, [])
end Txl
end Go.Proofs.YtklbemkafdccgaaGreat
