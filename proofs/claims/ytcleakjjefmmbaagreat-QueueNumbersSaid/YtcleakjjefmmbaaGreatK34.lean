/- Several texts in one: SfSwap, SfSurePlain, SfRel, SfAlike, SfBootPl. -/
import Derived.Test.YtcleakjjefmmbaaGreatK32
import Derived.Test.YtcleakjjefmmbaaGreatK33
import Derived.Test.YtcleakjjefmmbaaGreatK24
import Derived.Test.YtcleakjjefmmbaaGreatK25
import Derived.Test.YtcleakjjefmmbaaGreatK31
/- safe: Swap. -/
namespace Go.Proofs.YtcleakjjefmmbaaGreat
open Go.RowKit
namespace Sf
open Vd
def dotN : Str := [46, 110]
/-- the new file is taken away, if it is there still -/
def tidyS (n : Str) (q : Dsk × Int) : Dsk × Int := if q.2 = 0 ∨ q.2 = 11 ∨ hasD q.1 n = false then q else ((sUnlink n q.1).1, q.2)
def sSwap1 (x n b : Str) (d : Dsk) : Dsk × Int := tidyS n (thenD (thenD (thenD (createD d n) (sAppend n b)) (fun d => renameD d n x)) sDir)
def sSwap (x b : Str) (d : Dsk) : Dsk × Int :=
 if 30 < x.length then (d, 3) else if hasD d (x ++ dotN) then (if (unlinkD d (x ++ dotN)).2 ≠ 0 then unlinkD d (x ++ dotN) else sSwap1 x (x ++ dotN) b (unlinkD d (x ++ dotN)).1) else sSwap1 x (x ++ dotN) b d
section
variable {S : Nat → Prop} {w1 w wb w2 w3 : World} {g : Nat} {d d2 : Dsk} {k k2 : Nat}
set_option maxRecDepth 100000 in
set_option maxHeartbeats 2000000 in
theorem sswap_on (h : On S w1 w g d k) (hk : k ≤ 89960) {x b : Str} {p0 : Option Addr} {c0 : Nat} (hx : x.length ≤ 100) (hs : Stays S w1 (.slice p0 b.length c0) (b.map u8v)) (hbl : b.length ≤ 1000000000) : Calls Tryz.prog 63 #[.pointer (some ⟨g, 0, none⟩), .string (bstr x), .slice p0 b.length c0] w (Says (Tells S w1 g (sSwap x b d) (k + 10))) := by
 have H := Lib.hid h
 have HS := Lib.hid hs
 have hsx := bstr_size x
 have HX0 : Hid (sSwap x b d = if 30 < x.length then (d, 3) else if hasD d (x ++ dotN) then (if (unlinkD d (x ++ dotN)).2 ≠ 0 then unlinkD d (x ++ dotN) else sSwap1 x (x ++ dotN) b (unlinkD d (x ++ dotN)).1) else sSwap1 x (x ++ dotN) b d) := Lib.hid rfl
 clear h hs
 go_enter Tryz.func63, Tryz.ntmps63
 go_upto_region 1 with fail
 generalize hW : World.alloc _ _ = wa
 have HB := Lib.hid (show Boxes wa w.heap.size (w.heap.size + 1) g x from by
  rw [← hW]
  exact ⟨((Blk.new _ _ _ rfl).alloc _).alloc _, (Blk.new _ _ _ (by rw [Frm.alloc_size])).alloc _⟩)
 have HR := Lib.hid (show Blk wa (w.heap.size + 1 + 1) 53 #[.slice p0 b.length c0] from by
  rw [← hW]
  exact Blk.new _ _ _ (by rw [Frm.alloc_size, Frm.alloc_size]))
 have HK := Lib.hid (show Keeps w wa from by rw [← hW]; exact (((Keeps.refl _).alloc _).alloc _).alloc _)
 clear hW
 have b1 : wa.cell? ⟨w.heap.size + 1, 0, none⟩ = some (.string (bstr x)) := by rw [HB.out.nm.cell]; rfl
 by_cases h30 : 30 < x.length
 ·have HX : Hid (sSwap x b d = (d, 3)) := Lib.hid (HX0.out.trans (if_pos h30))
  clear HX0
  go_wp2_with fail
  go_ret
  refine ⟨3, rfl, ?_⟩
  rw [HX.out]
  exact ⟨rfl, On.more (H.out.back HK.out (H.out.base HK.out)) (by omega)⟩
 ·have HX1 := Lib.hid (HX0.out.trans (if_neg h30))
  clear HX0
  obtain ⟨n, hn⟩ : ∃ n, n = x ++ dotN := ⟨_, rfl⟩
  have hnl : n.length ≤ 100 := by rw [hn]; simp [dotN]; omega
  have happ : bstr x ++ (⟨#[46, 110]⟩ : ByteArray) = bstr n := by rw [hn]; exact Frm.bstr_append x dotN
  rw [← hn] at HX1
  have hs2 : (⟨#[46, 110]⟩ : ByteArray).size = 2 := rfl
  clear hn
  go_upto_region 4 with fail
  have hnm : n.length ≤ maxLen := by unfold maxLen; omega
  generalize hW : World.alloc wa _ = wb
  have HKab := Lib.hid (show Keeps wa wb from by rw [← hW]; exact (Keeps.refl _).alloc _)
  have HNB := Lib.hid (show Blk wb wa.heap.size 9 #[.string (bstr n)] from by rw [← hW]; exact Blk.new _ _ _ rfl)
  clear hW b1 happ hs2 hsx
  have HKb := Lib.hid (HK.out.trans HKab.out)
  have HBb := Lib.hid (show Boxes wb w.heap.size (w.heap.size + 1) g x from ⟨HB.out.dp.keeps HKab.out, HB.out.nm.keeps HKab.out⟩)
  have HRb := Lib.hid (HR.out.keeps HKab.out)
  have hq0 : w.heap.size + 3 ≤ wa.heap.size := by have := HR.out.lt; omega
  obtain ⟨p, hp⟩ : ∃ p, p = w.heap.size := ⟨_, rfl⟩
  obtain ⟨q, hqe⟩ : ∃ q, q = wa.heap.size := ⟨_, rfl⟩
  rw [← hp] at HBb HRb hq0 ⊢
  rw [← hqe] at HNB hq0 ⊢
  have HPW := Lib.hid hp
  have hqb : q < wb.heap.size := HNB.out.lt
  clear hp hqe HB HR HKab
  have HOB := Lib.hid (H.out.base HKb.out)
  have HHS := Lib.hid (has_on HOB.out n hnm)
  have b0 : wb.cell? ⟨p, 0, none⟩ = some (.pointer (some ⟨g, 0, none⟩)) := by rw [HBb.out.dp.cell]; rfl
  have bn : wb.cell? ⟨q, 0, none⟩ = some (.string (bstr n)) := by rw [HNB.out.cell]; rfl
  go_wp2_with fail
  refine HHS.out.mono ?_
  rintro e w2 ⟨rfl, rfl⟩
  clear HHS
  obtain ⟨hh, hhe⟩ : ∃ hh, hh = hasD d n := ⟨_, rfl⟩
  rw [← hhe] at HX1 ⊢
  clear hhe
  go_upto_if 17 with fail
  go_cut [] (fun wx => ∃ d2 k2, Hid (On (More S w1 w) wb wx g d2 k2 ∧ k2 ≤ k + 1 ∧ sSwap x b d = sSwap1 x n b d2))
  case first =>
   cases hh with
   |false =>
    have HX2 := Lib.hid (HX1.out.trans (if_neg (by simp)))
    go_wp2_with fail
    go_meet
    exact ⟨d, k, Lib.hid ⟨HOB.out, by omega, HX2.out⟩⟩
   |true =>
    have HX2 := Lib.hid (HX1.out.trans (if_pos rfl))
    have HUL := Lib.hid (unlink_on HOB.out (by omega) n hnm)
    generalize unlinkD d n = r at *
    obtain ⟨d2, er⟩ := r
    go_wp2_with fail
    refine HUL.out.mono ?_
    rintro e w2 ⟨rfl, ho2⟩
    have HO2 := Lib.hid ho2
    clear ho2 HUL b0 bn
    by_cases he : er = 0
    ·subst he
     have HX3 := Lib.hid (HX2.out.trans (if_neg (by simp)))
     go_wp2_with fail
     go_meet
     exact ⟨d2, k + 1, Lib.hid ⟨HO2.out, Nat.le_refl _, HX3.out⟩⟩
    ·have HX3 : Hid (sSwap x b d = (d2, er)) := Lib.hid (HX2.out.trans (if_pos he))
     have he' : (er != 0) = true := by simp [he]
     clear he
     go_wp2_with fail
     go_ret
     refine ⟨er, rfl, ?_⟩
     rw [HX3.out]
     exact ⟨rfl, On.more (H.out.back HKb.out HO2.out) (by omega)⟩
  case rest =>
  obtain ⟨d2, k2, HC⟩ := hcut
  obtain ⟨w2, rfl⟩ : ∃ z : World, z = wc := ⟨_, rfl⟩
  have HO2 := Lib.hid HC.out.1
  have hk2 := HC.out.2.1
  have HX2 := Lib.hid HC.out.2.2
  clear HC HX1 b0 bn
  have HN : Hid (∀ b, p ≤ b → b < wb.heap.size → ¬ More (More S w1 w) wb w2 b) := Lib.hid (fun b h1 h2 => off_set H.out HO2.out (by have := HPW.out; omega) h2)
  have HB2 := Lib.hid (show Boxes w2 p q g n from ⟨H.out.blk HO2.out HBb.out.dp (by have := HPW.out; omega), H.out.blk HO2.out HNB.out (by have := HPW.out; omega)⟩)
  have HX2' := Lib.hid (H.out.blk HO2.out HBb.out.nm (by have := HPW.out; omega))
  have HR2 := Lib.hid (H.out.blk HO2.out HRb.out (by have := HPW.out; omega))
  go_wp2_with fail
  generalize hW : World.alloc w2 _ = w3
  have HK3 := Lib.hid (show Keeps w2 w3 from by rw [← hW]; exact (Keeps.refl _).alloc _)
  have HBB := Lib.hid (show Blk w3 w2.heap.size 72 #[cloV (132, #[], #[.pointer (some ⟨p, 0, none⟩), .pointer (some ⟨q, 0, none⟩)]), cloV (133, #[], #[.pointer (some ⟨p, 0, none⟩), .pointer (some ⟨q, 0, none⟩), .pointer (some ⟨p + 1 + 1, 0, none⟩)]), cloV (134, #[], #[.pointer (some ⟨p, 0, none⟩), .pointer (some ⟨q, 0, none⟩), .pointer (some ⟨p + 1, 0, none⟩)]), cloV (136, #[], #[.pointer (some ⟨p, 0, none⟩)])] from by
   rw [← hW]
   exact Blk.new _ _ _ rfl)
  clear hW
  have HO3 := Lib.hid (HO2.out.base HK3.out)
  have HS3 := Lib.hid ((HS.out.base H.out HKb.out).base HO2.out HK3.out)
  have HBX := Lib.hid (fun w' d' k' (ho : On (More (More S w1 w) wb w2) w3 w' g d' k') => show Boxes w' p q g n from ⟨On.kept ho (HB2.out.dp.keeps HK3.out) (HN.out _ (Nat.le_refl _) (by omega)), On.kept ho (HB2.out.nm.keeps HK3.out) (HN.out _ (by omega) hqb)⟩)
  have HST := Lib.hid (steps4_on HO3.out HBB.out (fun hy => by
    have h0 := HO2.out.mods.size
    rcases hy with hy | hy
    ·have := HO2.out.lt _ hy
     omega
    ·omega) (enters_of Tryz.func132 (by kernel_rfl) rfl _) (enters_of Tryz.func133 (by kernel_rfl) rfl _) (enters_of Tryz.func134 (by kernel_rfl) rfl _) (enters_of Tryz.func136 (by kernel_rfl) rfl _)
   (fun d => createD d n) (sAppend n b) (fun d => renameD d n x) sDir (k1 := k2 + 1) (k2 := k2 + 4) (k3 := k2 + 5) (k4 := k2 + 7) (by omega) (by omega) (by omega)
   (fun w' ho => swap1_on ho (by omega) hnl (HBX.out _ _ _ ho))
   (fun w' d' ho => swap2_on ho (by omega) hnl HS3.out hbl (HBX.out _ _ _ ho) (On.kept ho (HR2.out.keeps HK3.out) (HN.out _ (by omega) (by omega))))
   (fun w' d' ho => swap3_on ho (by omega) hnl (by omega) (HBX.out _ _ _ ho) (On.kept ho (HX2'.out.keeps HK3.out) (HN.out _ (by omega) (by omega))))
   (fun w' d' ho => swap4_on ho (by omega) (HBX.out _ _ _ ho).dp))
  have HX3 : Hid (sSwap x b d = tidyS n (thenD (thenD (thenD (createD d2 n) (sAppend n b)) (fun d => renameD d n x)) sDir)) := Lib.hid HX2.out
  generalize thenD (thenD (thenD (createD d2 n) (sAppend n b)) (fun d => renameD d n x)) sDir = qq at *
  obtain ⟨d4, eq⟩ := qq
  refine HST.out.mono ?_
  rintro e w4 ⟨c, rfl, hc, ho⟩
  have hc : c = eq := hc
  subst hc
  have HO4 := Lib.hid ho
  have HB4 := Lib.hid (HBX.out _ _ _ ho)
  clear ho HST
  have b0 : w4.cell? ⟨p, 0, none⟩ = some (.pointer (some ⟨g, 0, none⟩)) := by rw [HB4.out.dp.cell]; rfl
  have b1 : w4.cell? ⟨q, 0, none⟩ = some (.string (bstr n)) := by rw [HB4.out.nm.cell]; rfl
  by_cases h0 : c = 0
  ·subst h0
   have HX : Hid (sSwap x b d = (d4, 0)) := Lib.hid (HX3.out.trans (if_pos (.inl rfl)))
   go_wp2_with fail
   go_ret
   refine ⟨0, rfl, ?_⟩
   rw [HX.out]
   exact ⟨rfl, On.more (H.out.back HKb.out (HO2.out.back HK3.out HO4.out)) (by omega)⟩
  ·by_cases h11 : c = 11
   ·subst h11
    have HX : Hid (sSwap x b d = (d4, 11)) := Lib.hid (HX3.out.trans (if_pos (.inr (.inl rfl))))
    go_wp2_with fail
    go_ret
    refine ⟨11, rfl, ?_⟩
    rw [HX.out]
    exact ⟨rfl, On.more (H.out.back HKb.out (HO2.out.back HK3.out HO4.out)) (by omega)⟩
   ·have HH4 := Lib.hid (has_on HO4.out n hnm)
    have e1 : (c != 0) = true := by simp [h0]
    have e2 : (c != 11) = true := by simp [h11]
    cases hh4 : hasD d4 n with
    |false =>
     have HX : Hid (sSwap x b d = (d4, c)) := Lib.hid (HX3.out.trans (if_pos (.inr (.inr hh4))))
     rw [hh4] at HH4
     clear h0 h11 hh4
     go_wp2_with fail
     refine HH4.out.mono ?_
     rintro e w5 ⟨rfl, rfl⟩
     go_wp2_with fail
     go_ret
     refine ⟨c, rfl, ?_⟩
     rw [HX.out]
     exact ⟨rfl, On.more (H.out.back HKb.out (HO2.out.back HK3.out HO4.out)) (by omega)⟩
    |true =>
     have HX : Hid (sSwap x b d = ((sUnlink n d4).1, c)) := Lib.hid (HX3.out.trans (if_neg (by simp [h0, h11, hh4])))
     rw [hh4] at HH4
     have HUL := Lib.hid (sunlink_on HO4.out (by omega) n hnm)
     clear h0 h11 hh4
     go_wp2_with fail
     refine HH4.out.mono ?_
     rintro e w5 ⟨rfl, rfl⟩
     go_wp2_with fail
     refine HUL.out.mono ?_
     rintro e w5 ⟨rfl, ho5⟩
     have HO5 := Lib.hid ho5
     clear ho5 HUL b0 b1
     go_wp2_with fail
     go_ret
     refine ⟨c, rfl, ?_⟩
     rw [HX.out]
     exact ⟨rfl, On.more (H.out.back HKb.out (HO2.out.back HK3.out HO5.out)) (by omega)⟩
end
end Sf
end Go.Proofs.YtcleakjjefmmbaaGreat

/- Make, Append, Drop, plain, whenever the power goes. -/
namespace Go.Proofs.YtcleakjjefmmbaaGreat
open Go.RowKit
namespace Sf
open Vd
theorem overL_end (a c : Str) : overL a a.length c = a ++ c := by
 apply List.ext_getElem?
 intro j
 rw [overL_get]
 by_cases h1 : j < a.length
 ·rw [if_neg (by omega), if_pos h1, List.getElem?_append_left h1]
 ·by_cases h2 : j < a.length + c.length
  ·rw [if_pos (by omega), List.getElem?_append_right (by omega)]
  ·rw [if_neg (by omega), if_neg h1, if_neg (by omega), List.getElem?_eq_none (by simp; omega)]
section
variable {a b l : Str} {n : Int} {f k : Int × Int}
end
end Sf
end Go.Proofs.YtcleakjjefmmbaaGreat

/- The disk and the document's disk alike: a relation that each call keeps, with one answer. Plain: no program in sight. -/
namespace Go.Proofs.YtcleakjjefmmbaaGreat
open Go.RowKit
namespace Vd
def filOf (x : Nod) : RFil := ⟨x.seen, x.sure, x.pats⟩
/-- a trap: set alike, or so far that no call comes to it -/
def TrapR (a b c : Int) : Prop := (a = b ∧ -1 ≤ a ∧ a ≤ 4611686018427387904) ∨ (a = -1 ∧ 4611686018427387904 ≤ b + c)
/-- the names behind so many turns -/
def goneR (sure : Nms) (ws : List RTurn) (j : Nat) : Nms := (ws.take j).foldl doR sure
def goneD (sure : Nms) (ms : List Mv) (j : Nat) : Nms := (ms.take j).foldl giveN sure
/-- names, each of a node of its own -/
structure NmsOk (l : Nms) (n : Nat) : Prop where
 asc : AscN l
 one : ∀ a ∈ l, ∀ b ∈ l, a.2 = b.2 → a = b
 lt : ∀ p ∈ l, p.2 < n
/-- a node that has a sure name, or whose Create waits -/
def basedB (d : Dsk) (i : Nat) : Bool := d.sure.any (fun p => decide (p.2 = i)) || (nodD d i).fresh
structure DR (d : Dsk) (r : RDsk) (k : Nat) : Prop where
 room : d.room = r.cap
 off : d.off = r.down
 count : d.count = r.calls
 seen : d.seen = r.now
 sure : d.sure = r.sure
 flen : r.files.length = d.nodes.length
 files : ∀ i (x : Nod), d.nodes[i]? = some x → basedB d i = true → r.files[i]? = some (filOf x)
 fail : TrapR d.fail.1 r.fail r.calls
 code : 0 ≤ d.fail.1 → d.fail.2 = r.err
 crash : TrapR d.crash.1 r.crash r.calls
 wl : r.waits.length = d.moves.length
 turns : ∀ j, goneR d.sure r.waits j = goneD d.sure d.moves j
 now : d.seen = goneD d.sure d.moves d.moves.length
 made : ∀ i, i < d.nodes.length → (nodD d i).fresh = r.waits.any (fun t => decide (t.file = (i : Int)))
 file : ∀ t ∈ r.waits, t.file < (d.nodes.length : Int)
 ok : NmsOk d.seen d.nodes.length
 oku : NmsOk d.sure d.nodes.length
 sb : ∀ p ∈ d.seen, basedB d p.2 = true
 mb : ∀ m ∈ d.moves, basedB d m.node = true
 mv : ∀ m ∈ d.moves, m.node < d.nodes.length
 nl : ∀ p ∈ d.seen, p.1.length ≤ 32
 nu : ∀ p ∈ d.sure, p.1.length ≤ 32
 nv : ∀ m ∈ d.moves, m.name.length ≤ 32
 c0 : 0 ≤ d.count
 c1 : d.count ≤ k
/-- one call of each disk -/
def DAlike (j : Nat) (f : Dsk → Dsk × Int) (g : RDsk → RDsk × Int) : Prop := ∀ d r k, k + j ≤ 1000000000000 → DR d r k → (f d).2 = (g r).2 ∧ DR (f d).1 (g r).1 (k + j)
theorem DR.more {d : Dsk} {r : RDsk} {k k' : Nat} (h : DR d r k) (hk : k ≤ k') : DR d r k' := { h with c1 := by have := h.c1; omega }
theorem trap_tick {a b c : Int} (h : TrapR a b c) (h0 : 0 ≤ c) (hc : c ≤ 1000000000000) : ∃ a', springT a = (a', decide (b = 0)) ∧ TrapR a' (tickR b) (c + 1) ∧ (0 ≤ a' → 0 ≤ a) := by
 unfold springT tickR
 rcases h with ⟨rfl, h1, h2⟩ | ⟨rfl, h1⟩
 ·by_cases hn : a < 0
  ·rw [if_pos hn, if_neg (by omega)]
   exact ⟨a, by rw [decide_eq_false (by omega)], .inl ⟨rfl, h1, h2⟩, id⟩
  ·rw [if_neg hn, if_pos (by omega)]
   refine ⟨a - 1, ?_, .inl ⟨rfl, by omega, by omega⟩, fun _ => by omega⟩
   congr 1
   rw [decide_eq_decide]
   omega
 ·rw [if_pos (by omega), if_pos (by omega)]
  exact ⟨-1, by rw [decide_eq_false (by omega)], .inr ⟨rfl, by omega⟩, fun h => by omega⟩
theorem begin_shape (d : Dsk) (r : RDsk) {k : Nat} (hk : k ≤ 1000000000000) (h : DR d r k) : (changeD d).2 = (beginR r).2 ∧ DR (changeD d).1 (beginR r).1 (k + 1) := by
 have h0 := h.c0
 have h1 := h.c1
 obtain ⟨c', hc, hc2, -⟩ := trap_tick h.crash (by have := h.count; omega) (by have := h.count; omega)
 obtain ⟨f', hf, hf2, hf3⟩ := trap_tick h.fail (by have := h.count; omega) (by have := h.count; omega)
 unfold changeD beginR
 rw [hc, hf, ← h.off]
 cases ho : d.off with
 |true => exact ⟨rfl, h.more (by omega)⟩
 |false =>
  simp only [Bool.false_eq_true, if_false]
  have hD : ∀ o, DR { d with off := o, count := d.count + 1, fail := (f', d.fail.2), crash := (c', d.crash.2) } { r with calls := r.calls + 1, crash := tickR r.crash, fail := tickR r.fail, down := o } (k + 1) := fun o =>
   {h with
    off := rfl
    count := by show d.count + 1 = r.calls + 1; rw [h.count]
    fail := hf2
    code := fun hh => h.code (hf3 hh)
    crash := hc2
    c0 := by show 0 ≤ d.count + 1; omega
    c1 := by show d.count + 1 ≤ _; omega }
  by_cases hcr : r.crash = 0
  ·rw [decide_eq_true hcr, if_pos rfl, if_pos hcr]
   exact ⟨rfl, hD true⟩
  ·rw [decide_eq_false hcr, if_neg (by simp), if_neg hcr]
   have hd := hD false
   by_cases hfr : r.fail = 0
   ·rw [decide_eq_true hfr, if_pos rfl, if_pos hfr]
    have ha : 0 ≤ d.fail.1 := by
     rcases h.fail with ⟨e, -, -⟩ | ⟨-, e⟩
     ·omega
     ·have := h.count; omega
    exact ⟨h.code ha, hd⟩
   ·rw [decide_eq_false hfr, if_neg (by simp), if_neg hfr]
    exact ⟨rfl, hd⟩
/-- the beginning of each call that changes -/
theorem begin_alike : DAlike 1 changeD beginR := fun d r _ hk h => begin_shape d r (by omega) h
theorem beginR_same (r : RDsk) : (beginR r).1.now = r.now ∧ (beginR r).1.files = r.files ∧ (beginR r).1.sure = r.sure ∧ (beginR r).1.waits = r.waits ∧ (beginR r).1.cap = r.cap := by
 unfold beginR
 split
 ·exact ⟨rfl, rfl, rfl, rfl, rfl⟩
 ·split
  ·exact ⟨rfl, rfl, rfl, rfl, rfl⟩
  ·split <;> exact ⟨rfl, rfl, rfl, rfl, rfl⟩

/-! ### Turns -/
theorem nms_drop {l : Nms} {n : Nat} (h : NmsOk l n) (i : Nat) : NmsOk (dropN l i) n :=
 ⟨ascN_drop h.asc i, fun a ha b hb => h.one a (List.mem_filter.1 ha).1 b (List.mem_filter.1 hb).1, fun p hp => h.lt p (List.mem_filter.1 hp).1⟩
theorem nms_give {l : Nms} {n : Nat} (h : NmsOk l n) {m : Mv} (hm : m.node < n) : NmsOk (giveN l m) n := by
 unfold giveN
 by_cases hn : m.name = []
 ·rw [if_pos hn]
  exact nms_drop h _
 ·rw [if_neg hn]
  have hd := nms_drop h m.node
  have hne : ∀ p ∈ dropN l m.node, p.2 ≠ m.node := fun p hp => by simpa [dropN] using (List.mem_filter.1 hp).2
  have hmem : ∀ p ∈ putN (dropN l m.node) m.name m.node, p ∈ dropN l m.node ∨ p = (m.name, m.node) := fun p hp => by
   unfold putN at hp
   rcases List.mem_append.1 hp with hp | hp
   ·exact .inl (List.mem_filter.1 hp).1
   ·rcases List.mem_cons.1 hp with rfl | hp
    ·exact .inr rfl
    ·exact .inl (List.mem_filter.1 hp).1
  refine ⟨ascN_put hd.asc _ _, fun a ha b hb e => ?_, fun p hp => ?_⟩
  ·rcases hmem a ha with ha | rfl <;> rcases hmem b hb with hb | rfl
   ·exact hd.one a ha b hb e
   ·exact absurd e (hne a ha)
   ·exact absurd e.symm (hne b hb)
   ·rfl
  ·rcases hmem p hp with hp | rfl
   ·exact hd.lt p hp
   ·exact hm
theorem NmsOk.more {l : Nms} {n n' : Nat} (h : NmsOk l n) (hn : n ≤ n') : NmsOk l n' := ⟨h.asc, h.one, fun p hp => Nat.lt_of_lt_of_le (h.lt p hp) hn⟩
theorem NmsOk.len {l : Nms} {n : Nat} (h : NmsOk l n) : l.length ≤ n := by
 have h1 : (l.map (·.2)).Nodup := by
  refine List.pairwise_map.2 (h.asc.imp_of_mem fun {a b} ha hb hab e => ?_)
  have := h.one a ha b hb e
  subst this
  exact str_irrefl _ hab
 have h2 := h1.length_le_of_subset (l₂ := List.range n) (fun i hi => by
  obtain ⟨p, hp, rfl⟩ := List.mem_map.1 hi
  exact List.mem_range.2 (h.lt p hp))
 simpa using h2
theorem NmsOk.gone {l : Nms} {n : Nat} (h : NmsOk l n) {ms : List Mv} (hm : ∀ m ∈ ms, m.node < n) (j : Nat) : NmsOk (goneD l ms j) n := by
 unfold goneD
 have hm' : ∀ m ∈ ms.take j, m.node < n := fun m hh => hm m (List.mem_of_mem_take hh)
 generalize ms.take j = ms' at hm'
 induction ms' generalizing l with
 |nil => exact h
 |cons m ms' ih => exact ih (nms_give h (hm' m (List.mem_cons_self ..))) (fun x hx => hm' x (List.mem_cons_of_mem _ hx))
theorem drop_without {l : Nms} {n i : Nat} {x : Str} (h : NmsOk l n) (hl : look l x = some i) : dropN l i = withoutL l x := by
 have hm := (look_mem h.asc).1 hl
 refine List.filter_congr fun p hp => ?_
 rw [decide_eq_decide]
 constructor
 ·rintro h1 rfl
  have := (look_mem h.asc).2 (show (p.1, p.2) ∈ l from hp)
  rw [hl] at this
  exact h1 (Option.some.inj this).symm
 ·rintro h1 rfl
  exact h1 (by rw [h.one p hp (x, p.2) hm rfl])
theorem do_name {l : Nms} {n i : Nat} {x : Str} (h : NmsOk l n) (hl : look l x = some i) (y : Str) : doR l ⟨x, y, -1⟩ = giveN l ⟨i, y, false⟩ := by
 unfold doR giveN
 rw [if_pos (by show (-1 : Int) < 0; decide)]
 simp only [hl, drop_without h hl]
theorem drop_none {l : Nms} {n i : Nat} (h : NmsOk l n) (hi : n ≤ i) : dropN l i = l := by
 refine List.filter_eq_self.2 fun p hp => ?_
 have := h.lt p hp
 exact decide_eq_true (by omega)
theorem do_new {l : Nms} {n : Nat} (h : NmsOk l n) {x : Str} (hx : x ≠ []) : doR l ⟨[], x, (n : Int)⟩ = giveN l ⟨n, x, true⟩ := by
 unfold doR giveN
 have h0 : ¬ (n : Int) < 0 := by omega
 simp only [h0, if_false, hx, drop_none h (Nat.le_refl n), Int.toNat_natCast]
theorem gone_old {sure : Nms} {ms : List Mv} {m : Mv} {j : Nat} (h : j ≤ ms.length) : goneD sure (ms ++ [m]) j = goneD sure ms j := by
 unfold goneD
 rw [List.take_append_of_le_length h]
theorem gone_new {sure : Nms} {ms : List Mv} {m : Mv} {j : Nat} (h : ms.length < j) : goneD sure (ms ++ [m]) j = giveN (goneD sure ms ms.length) m := by
 unfold goneD
 rw [List.take_of_length_le (by simp; omega), List.foldl_append, List.take_of_length_le (Nat.le_refl _)]
 rfl
theorem rgone_old {sure : Nms} {ms : List RTurn} {m : RTurn} {j : Nat} (h : j ≤ ms.length) : goneR sure (ms ++ [m]) j = goneR sure ms j := by
 unfold goneR
 rw [List.take_append_of_le_length h]
theorem rgone_new {sure : Nms} {ms : List RTurn} {m : RTurn} {j : Nat} (h : ms.length < j) : goneR sure (ms ++ [m]) j = doR (goneR sure ms ms.length) m := by
 unfold goneR
 rw [List.take_of_length_le (by simp; omega), List.foldl_append, List.take_of_length_le (Nat.le_refl _)]
 rfl
theorem give_sub {l : Nms} {m : Mv} {p : Str × Nat} (h : p ∈ giveN l m) : p ∈ l ∨ p = (m.name, m.node) := give_mem h
/-- a turn of names in both -/
theorem turn_alike {d : Dsk} {r : RDsk} {k : Nat} (h : DR d r k) {m : Mv} {t : RTurn} (he : doR d.seen t = giveN d.seen m) (hb : basedB d m.node = true) (hm : m.node < d.nodes.length) (hf : t.file < (d.nodes.length : Int)) (hn : ∀ i, i < d.nodes.length → t.file = (i : Int) → (nodD d i).fresh = true) (hnm : m.name.length ≤ 32) : DR (turnD d m) (turnR r t) k :=
 {h with
  seen := by show giveN d.seen m = doR r.now t; rw [← h.seen, he]
  wl := by show (r.waits ++ [t]).length = (d.moves ++ [m]).length; rw [List.length_append, List.length_append, h.wl]; rfl
  turns := fun j => by
   show goneR d.sure (r.waits ++ [t]) j = goneD d.sure (d.moves ++ [m]) j
   by_cases hj : j ≤ d.moves.length
   ·rw [gone_old hj, rgone_old (by rw [h.wl]; exact hj), h.turns]
   ·rw [gone_new (by omega), rgone_new (by rw [h.wl]; omega), h.turns, h.wl, ← h.now, he]
  now := by
   show giveN d.seen m = goneD d.sure (d.moves ++ [m]) (d.moves ++ [m]).length
   rw [gone_new (by simp), ← h.now]
  made := fun i hi => by
   show (nodD d i).fresh = (r.waits ++ [t]).any _
   rw [List.any_append, ← h.made i hi]
   by_cases e : t.file = (i : Int)
   ·rw [hn i hi e]; rfl
   ·simp [e]
  file := fun t' ht => by
   rcases List.mem_append.1 ht with ht | ht
   ·exact h.file t' ht
   ·rw [List.mem_singleton.1 ht]; exact hf
  ok := nms_give h.ok hm
  sb := fun p hp => by
   show basedB d p.2 = true
   rcases give_sub hp with hp | rfl
   ·exact h.sb p hp
   ·exact hb
  mb := fun m' hm' => by
   show basedB d m'.node = true
   rcases List.mem_append.1 hm' with hm' | hm'
   ·exact h.mb m' hm'
   ·rw [List.mem_singleton.1 hm']; exact hb
  mv := fun m' hm' => by
   rcases List.mem_append.1 hm' with hm' | hm'
   ·exact h.mv m' hm'
   ·rw [List.mem_singleton.1 hm']; exact hm
  nl := fun p hp => by
   rcases give_sub hp with hp | rfl
   ·exact h.nl p hp
   ·exact hnm
  nv := fun m' hm' => by
   rcases List.mem_append.1 hm' with hm' | hm'
   ·exact h.nv m' hm'
   ·rw [List.mem_singleton.1 hm']; exact hnm }
theorem look_lt {l : Nms} {n i : Nat} {x : Str} (h : NmsOk l n) (hl : look l x = some i) : i < n := h.lt _ ((look_mem h.asc).1 hl)
/-- a name's turn in both -/
theorem named_alike {d : Dsk} {r : RDsk} {k : Nat} (h : DR d r k) {x : Str} {i : Nat} (hl : look d.seen x = some i) (y : Str) (hy : y.length ≤ 32) : DR (turnD d ⟨i, y, false⟩) (turnR r ⟨x, y, -1⟩) k :=
 turn_alike h (do_name h.ok hl y) (h.sb _ ((look_mem h.ok.asc).1 hl)) (look_lt h.ok hl) (by show (-1 : Int) < _; omega) (fun i _ e => by have e : (-1 : Int) = (i : Int) := e; omega) hy
end Vd
end Go.Proofs.YtcleakjjefmmbaaGreat

/- Each call of the two disks: one answer, and alike behind it. Plain. -/
namespace Go.Proofs.YtcleakjjefmmbaaGreat
open Go.RowKit
namespace Vd
theorem based_born {d : Dsk} {i : Nat} (hi : i < d.nodes.length) : basedB (bornD d) i = basedB d i := by
 unfold basedB nodD bornD
 simp only [List.getD_eq_getElem?_getD, List.getElem?_append_left hi]
theorem nodD_born {d : Dsk} {i : Nat} (hi : i < d.nodes.length) : nodD (bornD d) i = nodD d i := by
 unfold nodD bornD
 simp only [List.getD_eq_getElem?_getD, List.getElem?_append_left hi]
theorem nodD_new (d : Dsk) : nodD (bornD d) d.nodes.length = newN := by
 unfold nodD bornD
 simp [List.getD_eq_getElem?_getD]
/-- a node is made; its Create is the next turn -/
theorem born_alike {d : Dsk} {r : RDsk} {k : Nat} (h : DR d r k) {x : Str} (hx : x ≠ []) (hxl : x.length ≤ 32) : DR (turnD (bornD d) ⟨d.nodes.length, x, true⟩) (turnR { r with files := r.files ++ [filR0] } ⟨[], x, r.files.length⟩) k := by
 have hlen : (bornD d).nodes.length = d.nodes.length + 1 := by simp [bornD]
 have hd := do_new h.ok hx
 have hg : giveN d.seen ⟨d.nodes.length, x, true⟩ = giveN d.seen ⟨d.nodes.length, x, true⟩ := rfl
 refine
  {h with
   seen := by show giveN d.seen ⟨d.nodes.length, x, true⟩ = doR r.now ⟨[], x, (r.files.length : Int)⟩; rw [← h.seen, h.flen, hd]
   flen := by show (r.files ++ [filR0]).length = (bornD d).nodes.length; rw [hlen, List.length_append, h.flen]; rfl
   files := fun i y hy hb => ?_
   wl := by show (r.waits ++ [_]).length = (d.moves ++ [_]).length; rw [List.length_append, List.length_append, h.wl]; rfl
   turns := fun j => by
    show goneR d.sure (r.waits ++ [_]) j = goneD d.sure (d.moves ++ [_]) j
    by_cases hj : j ≤ d.moves.length
    ·rw [gone_old hj, rgone_old (by rw [h.wl]; exact hj), h.turns]
    ·rw [gone_new (by omega), rgone_new (by rw [h.wl]; omega), h.turns, h.wl, ← h.now, h.flen, hd]
   now := by
    show giveN d.seen _ = goneD d.sure (d.moves ++ [_]) (d.moves ++ [_]).length
    rw [gone_new (by simp), ← h.now]
   made := fun i hi => ?_
   file := fun t ht => ?_
   ok := nms_give (h.ok.more (by rw [show (turnD (bornD d) ⟨d.nodes.length, x, true⟩).nodes.length = d.nodes.length + 1 from hlen]; omega)) (by rw [show (turnD (bornD d) ⟨d.nodes.length, x, true⟩).nodes.length = d.nodes.length + 1 from hlen]; exact Nat.lt_succ_self _)
   oku := h.oku.more (by rw [show (turnD (bornD d) ⟨d.nodes.length, x, true⟩).nodes.length = d.nodes.length + 1 from hlen]; omega)
   sb := fun p hp => ?_
   mb := fun m hm => ?_
   mv := fun m hm => ?_
   nl := fun p hp => ?_
   nv := fun m hm => ?_ }
 ·show (r.files ++ [filR0])[i]? = some (filOf y)
  have hy : (d.nodes ++ [newN])[i]? = some y := hy
  by_cases hi : i < d.nodes.length
  ·rw [List.getElem?_append_left hi] at hy
   rw [List.getElem?_append_left (by rw [h.flen]; exact hi)]
   exact h.files i y hy (by rw [← based_born hi]; exact hb)
  ·have hi2 : i = d.nodes.length := by
    have := (List.getElem?_eq_some_iff.1 hy).1
    simp at this
    omega
   subst hi2
   rw [← h.flen, List.getElem?_concat_length]
   rw [List.getElem?_concat_length] at hy
   rw [← Option.some.inj hy]
   rfl
 ·show (nodD (bornD d) i).fresh = (r.waits ++ [_]).any _
  have hi : i < (bornD d).nodes.length := hi
  rw [hlen] at hi
  rw [List.any_append]
  by_cases hi2 : i < d.nodes.length
  ·rw [nodD_born hi2, h.made i hi2, h.flen]
   have : ¬ ((d.nodes.length : Int) = (i : Int)) := by omega
   simp [this]
  ·obtain rfl : i = d.nodes.length := by omega
   rw [nodD_new, h.flen]
   simp [newN]
 ·show t.file < ((bornD d).nodes.length : Int)
  rw [hlen]
  rcases List.mem_append.1 ht with ht | ht
  ·have := h.file t ht
   omega
  ·rw [List.mem_singleton.1 ht]
   show (r.files.length : Int) < _
   rw [h.flen]
   omega
 ·show basedB (bornD d) p.2 = true
  rcases give_sub hp with hp | rfl
  ·rw [based_born (h.ok.lt p hp)]
   exact h.sb p hp
  ·show basedB (bornD d) d.nodes.length = true
   unfold basedB
   rw [nodD_new]
   simp [newN]
 ·show basedB (bornD d) m.node = true
  rcases List.mem_append.1 hm with hm | hm
  ·rw [based_born (h.mv m hm)]
   exact h.mb m hm
  ·rw [List.mem_singleton.1 hm]
   show basedB (bornD d) d.nodes.length = true
   unfold basedB
   rw [nodD_new]
   simp [newN]
 ·show m.node < (bornD d).nodes.length
  rw [hlen]
  rcases List.mem_append.1 hm with hm | hm
  ·have := h.mv m hm
   omega
  ·rw [List.mem_singleton.1 hm]
   exact Nat.lt_succ_self _
 ·rcases give_sub hp with hp | rfl
  ·exact h.nl p hp
  ·exact hxl
 ·rcases List.mem_append.1 hm with hm | hm
  ·exact h.nv m hm
  ·rw [List.mem_singleton.1 hm]
   exact hxl
theorem named_len {x : Str} (h : namedB x = true) : x.length ≤ 32 := by
 unfold namedB at h
 simp at h
 omega
theorem named_ne {x : Str} (h : namedB x = true) : x ≠ [] := by
 rintro rfl
 revert h
 decide
theorem create_alike (x : Str) : DAlike 1 (fun d => createD d x) (fun r => createR r x) := by
 intro d r k hk h
 obtain ⟨h1, h2⟩ := begin_alike d r k hk h
 obtain ⟨e1, e2, e3, e4, e5⟩ := beginR_same r
 obtain ⟨g1, g2, g3, g4, g5⟩ := changeD_seen d
 unfold createD createR
 dsimp only
 rw [← h1]
 by_cases hc : (changeD d).2 ≠ 0
 ·rw [if_pos hc, if_pos hc]
  exact ⟨h1, h2⟩
 rw [if_neg hc, if_neg hc]
 by_cases hn : namedB x = false
 ·rw [if_pos hn, if_pos hn]
  exact ⟨rfl, h2⟩
 rw [if_neg hn, if_neg hn, h.seen]
 by_cases hl : (look r.now x).isSome = true
 ·rw [if_pos hl, if_pos hl]
  exact ⟨rfl, h2⟩
 rw [if_neg hl, if_neg hl]
 by_cases h1024 : r.now.length = 1024
 ·rw [if_pos h1024, if_pos h1024]
  exact ⟨rfl, h2⟩
 rw [if_neg h1024, if_neg h1024]
 refine ⟨rfl, ?_⟩
 have := born_alike h2 (x := x) (named_ne (by simpa using hn)) (named_len (by simpa using hn))
 rw [g2, e2] at this
 exact this
theorem filAt_of {d : Dsk} {r : RDsk} {k : Nat} (h : DR d r k) {i : Nat} (hi : i < d.nodes.length) (hb : basedB d i = true) : filAt r i = filOf (nodD d i) := by
 unfold filAt
 rw [List.getD_eq_getElem?_getD, h.files i d.nodes[i] (List.getElem?_eq_getElem hi) hb, nodD_get hi]
 rfl
theorem used_alike {d : Dsk} {r : RDsk} {k : Nat} (h : DR d r k) : usedR r = bytesN d.nodes d.seen := by
 unfold usedR bytesR bytesN
 rw [← h.seen]
 congr 1
 refine List.map_congr_left fun p hp => ?_
 have hi := h.ok.lt p hp
 rw [h.files p.2 d.nodes[p.2] (List.getElem?_eq_getElem hi) (h.sb p hp), List.getElem?_eq_getElem hi]
 rfl
theorem based_put {d : Dsk} {i : Nat} {x : Nod} (hf : x.fresh = (nodD d i).fresh) (j : Nat) : basedB (putD d i x) j = basedB d j := by
 unfold basedB
 congr 1
 unfold nodD putD
 dsimp only
 rw [List.getD_eq_getElem?_getD, List.getD_eq_getElem?_getD, List.getElem?_set]
 by_cases hij : i = j
 ·subst hij
  rw [if_pos rfl]
  by_cases hi : i < d.nodes.length
  ·rw [if_pos hi, List.getElem?_eq_getElem hi]
   show x.fresh = d.nodes[i].fresh
   rw [hf, nodD_get hi]
  ·rw [if_neg hi, List.getElem?_eq_none (by omega)]
 ·rw [if_neg hij]
theorem fresh_put {d : Dsk} {i : Nat} {x : Nod} (hf : x.fresh = (nodD d i).fresh) (j : Nat) : (nodD (putD d i x) j).fresh = (nodD d j).fresh := by
 unfold nodD putD
 dsimp only
 rw [List.getD_eq_getElem?_getD, List.getD_eq_getElem?_getD, List.getElem?_set]
 by_cases hij : i = j
 ·subst hij
  rw [if_pos rfl]
  by_cases hi : i < d.nodes.length
  ·rw [if_pos hi, List.getElem?_eq_getElem hi]
   show x.fresh = d.nodes[i].fresh
   rw [hf, nodD_get hi]
  ·rw [if_neg hi, List.getElem?_eq_none (by omega)]
 ·rw [if_neg hij]
/-- a node is changed in both -/
theorem put_alike {d : Dsk} {r : RDsk} {k : Nat} (h : DR d r k) {i : Nat} {x : Nod} (hf : x.fresh = (nodD d i).fresh) : DR (putD d i x) { r with files := r.files.set i (filOf x) } k :=
 {h with
  flen := by show (r.files.set i _).length = (d.nodes.set i x).length; rw [List.length_set, List.length_set, h.flen]
  files := fun j y hy hb => by
   show (r.files.set i (filOf x))[j]? = some (filOf y)
   have hy : (d.nodes.set i x)[j]? = some y := hy
   rw [List.getElem?_set] at hy ⊢
   by_cases hij : i = j
   ·subst hij
    rw [if_pos rfl] at hy ⊢
    rw [h.flen]
    split at hy
    ·rename_i hi
     rw [if_pos hi]
     rw [← Option.some.inj hy]
    ·cases hy
   ·rw [if_neg hij] at hy ⊢
    exact h.files j y hy (by rw [← based_put hf]; exact hb)
  made := fun j hj => by
   have hj : j < (d.nodes.set i x).length := hj
   rw [List.length_set] at hj
   rw [fresh_put hf]
   exact h.made j hj
  file := fun t ht => by show t.file < ((d.nodes.set i x).length : Int); rw [List.length_set]; exact h.file t ht
  ok := by show NmsOk d.seen (d.nodes.set i x).length; rw [List.length_set]; exact h.ok
  oku := by show NmsOk d.sure (d.nodes.set i x).length; rw [List.length_set]; exact h.oku
  sb := fun p hp => by rw [based_put hf]; exact h.sb p hp
  mb := fun m hm => by rw [based_put hf]; exact h.mb m hm
  mv := fun m hm => by show m.node < (d.nodes.set i x).length; rw [List.length_set]; exact h.mv m hm }
theorem write_alike {d : Dsk} {r : RDsk} {k : Nat} (h : DR d r k) {i : Nat} (hi : i < d.nodes.length) (hb : basedB d i = true) (p : Pat) : (writeD d i p).2 = (writeR r i p).2 ∧ DR (writeD d i p).1 (writeR r i p).1 k := by
 unfold writeD writeR
 have hc : (freeD d < ((overL (nodD d i).seen p.place p.b).length : Int) - ((nodD d i).seen.length : Int)) ↔ (r.cap - (usedR r : Int) < max 0 ((p.place : Int) + (p.b.length : Int) - ((filAt r i).now.length : Int))) := by
  rw [filAt_of h hi hb, used_alike h, ← h.room]
  unfold freeD
  rw [overL_len]
  show _ ↔ _ < max 0 ((p.place : Int) + (p.b.length : Int) - ((nodD d i).seen.length : Int))
  omega
 by_cases hd : freeD d < ((overL (nodD d i).seen p.place p.b).length : Int) - ((nodD d i).seen.length : Int)
 ·rw [if_pos hd, if_pos (hc.1 hd)]
  exact ⟨rfl, h⟩
 ·rw [if_neg hd, if_neg (fun hh => hd (hc.2 hh)), filAt_of h hi hb]
  exact ⟨rfl, put_alike h rfl⟩
theorem touch_shape {d : Dsk} {r : RDsk} {k : Nat} (hk : k + 1 ≤ 1000000000000) (h : DR d r k) (x : Str) :
  (changeD d).2 = (beginR r).2 ∧ DR (changeD d).1 (beginR r).1 (k + 1) ∧ (touchD d x).1 = (changeD d).1 ∧
  ((changeD d).2 ≠ 0 → (touchD d x).2.2 = (changeD d).2) ∧
  ((changeD d).2 = 0 → look r.now x = none → (touchD d x).2.2 = 7) ∧
  ((changeD d).2 = 0 → ∀ i, look r.now x = some i → (touchD d x).2 = (i, 0) ∧ i < (changeD d).1.nodes.length ∧ basedB (changeD d).1 i = true ∧ filAt r i = filOf (nodD (changeD d).1 i)) := by
 obtain ⟨h1, h2⟩ := begin_alike d r k hk h
 obtain ⟨e1, e2, e3, e4, e5⟩ := beginR_same r
 obtain ⟨g1, g2, g3, g4, g5⟩ := changeD_seen d
 refine ⟨h1, h2, touch_fst d x, fun hc => ?_, fun hc hl => ?_, fun hc i hl => ?_⟩
 ·unfold touchD
  rw [if_pos hc]
 ·unfold touchD findE
  rw [if_neg (by simp [hc]), h.seen, hl]
  rfl
 ·have hs : look d.seen x = some i := by rw [h.seen]; exact hl
  have hs2 : look (changeD d).1.seen x = some i := by rw [g1]; exact hs
  have hi := look_lt h2.ok hs2
  have hb := h2.sb _ ((look_mem h2.ok.asc).1 hs2)
  refine ⟨?_, hi, hb, ?_⟩
  ·unfold touchD findE
   rw [if_neg (by simp [hc]), hs]
   rfl
  ·rw [← filAt_of h2 hi hb]
   unfold filAt
   rw [e2]
theorem append_alike (x b : Str) : DAlike 1 (fun d => appendD d x b) (fun r => appendR r x b) := by
 intro d r k hk h
 obtain ⟨h1, h2, t1, t2, t3, t4⟩ := touch_shape hk h x
 unfold appendD appendR
 dsimp only
 rw [t1, ← h1]
 by_cases hc : (changeD d).2 ≠ 0
 ·rw [if_pos (by rw [t2 hc]; exact hc), if_pos hc, t2 hc]
  exact ⟨h1, h2⟩
 have hc0 : (changeD d).2 = 0 := by simpa using hc
 rw [if_neg hc]
 cases hl : look r.now x with
 |none =>
  rw [if_pos (by rw [t3 hc0 hl]; decide), t3 hc0 hl]
  exact ⟨rfl, h2⟩
 |some i =>
  obtain ⟨u1, u2, u3, u4⟩ := t4 hc0 i hl
  rw [u1]
  rw [if_neg (by simp)]
  dsimp only
  rw [u4]
  exact write_alike h2 u2 u3 _
theorem sync_alike (x : Str) : DAlike 1 (fun d => syncD d x) (fun r => syncR r x) := by
 intro d r k hk h
 obtain ⟨h1, h2, t1, t2, t3, t4⟩ := touch_shape hk h x
 obtain ⟨e1, e2, e3, e4, e5⟩ := beginR_same r
 unfold syncD syncR
 dsimp only
 rw [t1, ← h1]
 by_cases hc : (changeD d).2 ≠ 0
 ·rw [if_pos (by rw [t2 hc]; exact hc), if_pos hc, t2 hc]
  exact ⟨h1, h2⟩
 have hc0 : (changeD d).2 = 0 := by simpa using hc
 rw [if_neg hc]
 cases hl : look r.now x with
 |none =>
  rw [if_pos (by rw [t3 hc0 hl]; decide), t3 hc0 hl]
  exact ⟨rfl, h2⟩
 |some i =>
  obtain ⟨u1, u2, u3, u4⟩ := t4 hc0 i hl
  rw [u1]
  rw [if_neg (by simp)]
  dsimp only
  rw [u4]
  refine ⟨rfl, ?_⟩
  have := put_alike h2 (i := i) (x := settleN (nodD (changeD d).1 i)) rfl
  rw [e2] at this
  exact this
theorem rename_alike (x y : Str) : DAlike 1 (fun d => renameD d x y) (fun r => renameR r x y) := by
 intro d r k hk h
 obtain ⟨h1, h2⟩ := begin_alike d r k hk h
 obtain ⟨g1, -⟩ := changeD_seen d
 unfold renameD renameR
 dsimp only
 rw [← h1]
 by_cases hc : (changeD d).2 ≠ 0
 ·rw [if_pos hc, if_pos hc]
  exact ⟨h1, h2⟩
 rw [if_neg hc, if_neg hc]
 by_cases hn : namedB y = false
 ·rw [if_pos hn, if_pos hn]
  exact ⟨rfl, h2⟩
 rw [if_neg hn, if_neg hn, h.seen]
 cases hl : look r.now x with
 |none => exact ⟨rfl, h2⟩
 |some i =>
  refine ⟨rfl, ?_⟩
  exact named_alike h2 (x := x) (i := i) (by rw [g1, h.seen]; exact hl) y (named_len (by simpa using hn))
theorem unlink_alike (x : Str) : DAlike 1 (fun d => unlinkD d x) (fun r => unlinkR r x) := by
 intro d r k hk h
 obtain ⟨h1, h2, t1, t2, t3, t4⟩ := touch_shape hk h x
 obtain ⟨g1, -⟩ := changeD_seen d
 unfold unlinkD unlinkR
 dsimp only
 rw [t1, ← h1]
 by_cases hc : (changeD d).2 ≠ 0
 ·rw [if_pos (by rw [t2 hc]; exact hc), if_pos hc, t2 hc]
  exact ⟨h1, h2⟩
 have hc0 : (changeD d).2 = 0 := by simpa using hc
 rw [if_neg hc]
 cases hl : look r.now x with
 |none =>
  rw [if_pos (by rw [t3 hc0 hl]; decide), t3 hc0 hl]
  exact ⟨rfl, h2⟩
 |some i =>
  obtain ⟨u1, u2, u3, u4⟩ := t4 hc0 i hl
  rw [u1]
  rw [if_neg (by simp)]
  exact ⟨rfl, named_alike h2 (x := x) (i := i) (by rw [g1, h.seen]; exact hl) [] (Nat.zero_le _)⟩
theorem nodD_fix (d : Dsk) (i : Nat) : (nodD (fixD d) i).fresh = false := by
 unfold nodD fixD
 dsimp only
 rw [List.getD_eq_getElem?_getD, List.getElem?_map]
 cases d.nodes[i]? <;> rfl
theorem based_fix (d : Dsk) (i : Nat) : basedB (fixD d) i = d.seen.any (fun p => decide (p.2 = i)) := by
 unfold basedB
 rw [nodD_fix]
 show (d.seen.any _ || false) = _
 rw [Bool.or_false]
/-- the names are sure: of any disk whose seen names' files are alike -/
theorem fix_alike {d : Dsk} {r : RDsk} {k : Nat} (hfl : r.files.length = d.nodes.length) (hf : ∀ i (x : Nod), d.nodes[i]? = some x → d.seen.any (fun p => decide (p.2 = i)) = true → r.files[i]? = some (filOf x)) (hs : d.seen = r.now) (hr : d.room = r.cap) (ho : d.off = r.down) (hc : d.count = r.calls) (t1 : TrapR d.fail.1 r.fail r.calls) (t2 : 0 ≤ d.fail.1 → d.fail.2 = r.err) (t3 : TrapR d.crash.1 r.crash r.calls) (hok : NmsOk d.seen d.nodes.length) (hnl : ∀ p ∈ d.seen, p.1.length ≤ 32) (c0 : 0 ≤ d.count) (c1 : d.count ≤ k) : DR (fixD d) { r with sure := r.now, waits := [] } k :=
 have hl : (fixD d).nodes.length = d.nodes.length := by simp [fixD]
 {room := hr, off := ho, count := hc, seen := hs, sure := hs
  flen := by rw [hl]; exact hfl
  files := fun i x hx hb => by
   rw [based_fix] at hb
   have hx : (d.nodes.map staleN)[i]? = some x := hx
   rw [List.getElem?_map] at hx
   cases hy : d.nodes[i]? with
   |none => rw [hy] at hx; cases hx
   |some y =>
    rw [hy] at hx
    rw [← Option.some.inj hx]
    exact hf i y hy hb
  fail := t1, code := t2, crash := t3, wl := rfl
  turns := fun j => by simp [goneR, goneD, fixD]
  now := by simp [goneD, fixD]
  made := fun i _ => by rw [nodD_fix]; rfl
  file := fun t ht => absurd ht (List.not_mem_nil)
  ok := by rw [hl]; exact hok
  oku := by rw [hl]; exact hok
  sb := fun p hp => by rw [based_fix]; exact List.any_eq_true.2 ⟨p, hp, decide_eq_true rfl⟩
  mb := fun m hm => absurd hm (List.not_mem_nil)
  mv := fun m hm => absurd hm (List.not_mem_nil)
  nl := hnl, nu := hnl
  nv := fun m hm => absurd hm (List.not_mem_nil)
  c0 := c0, c1 := c1 }
theorem seen_based {d : Dsk} {r : RDsk} {k : Nat} (h : DR d r k) {i : Nat} (hi : d.seen.any (fun p => decide (p.2 = i)) = true) : basedB d i = true := by
 obtain ⟨p, hp, e⟩ := List.any_eq_true.1 hi
 rw [← of_decide_eq_true e]
 exact h.sb p hp
theorem syncDir_alike : DAlike 1 syncDirD syncDirR := by
 intro d r k hk h
 obtain ⟨h1, h2⟩ := begin_alike d r k hk h
 obtain ⟨e1, e2, e3, e4, e5⟩ := beginR_same r
 unfold syncDirD syncDirR
 rw [← h1]
 by_cases hc : (changeD d).2 ≠ 0
 ·rw [if_pos hc, if_pos hc]
  exact ⟨h1, h2⟩
 rw [if_neg hc, if_neg hc]
 refine ⟨rfl, ?_⟩
 have := fix_alike h2.flen (fun i x hx hb => h2.files i x hx (seen_based h2 hb)) h2.seen h2.room h2.off h2.count h2.fail h2.code h2.crash h2.ok h2.nl h2.c0 h2.c1
 rw [← e1]
 exact this
end Vd
end Go.Proofs.YtcleakjjefmmbaaGreat

/- Boot of the two disks: one answer, and alike behind it; how many writes wait. Plain. -/
namespace Go.Proofs.YtcleakjjefmmbaaGreat
open Go.RowKit
namespace Vd
theorem keepN_drop (keep : List Int) (n : Nat) (p : Pat) : keepN (keep.drop n) p = (⟨p.place, p.b.take (min (max (keep.getD n 0) 0) (p.b.length : Int)).toNat⟩, keep.drop (n + 1)) := by
 by_cases h : n < keep.length
 ·rw [List.drop_eq_getElem_cons h, List.getD_eq_getElem?_getD, List.getElem?_eq_getElem h]
  rfl
 ·rw [List.drop_eq_nil_of_le (by omega), List.drop_eq_nil_of_le (by omega), List.getD_eq_getElem?_getD, List.getElem?_eq_none (by omega)]
  have : (min (max ((none : Option Int).getD 0) 0) (p.b.length : Int)).toNat = 0 := by
   show (min (max (0 : Int) 0) (p.b.length : Int)).toNat = 0
   omega
  rw [this, List.take_zero]
  rfl
theorem bootW_pats (keep : List Int) : ∀ (ps : List Pat) (n : Nat) (s : Str), bootPats ps s (keep.drop n) = ((bootW keep ps n s).2, keep.drop (bootW keep ps n s).1)
 | [], n, s => rfl
 |p :: ps, n, s => by
  have ih := bootW_pats keep ps (n + 1)
  unfold bootPats bootW
  rw [keepN_drop]
  dsimp only
  rw [ih]
  have e : (if p.b.take (min (max (keep.getD n 0) 0) (p.b.length : Int)).toNat = [] then s else overL s p.place (p.b.take (min (max (keep.getD n 0) 0) (p.b.length : Int)).toNat)) = if min (max (keep.getD n 0) 0) (p.b.length : Int) = 0 then s else overL s p.place (p.b.take (min (max (keep.getD n 0) 0) (p.b.length : Int)).toNat) := by
   by_cases h : min (max (keep.getD n 0) 0) (p.b.length : Int) = 0
   ·rw [h, if_pos rfl]
    rfl
   ·rw [if_neg h, if_neg]
    intro hn
    have h1 := congrArg List.length hn
    rw [List.length_take] at h1
    simp only [List.length_nil] at h1
    omega
  rw [e]
theorem bootIx_app : ∀ (L M : List Nat) (ns : List Nod) (k : List Int), bootIx (L ++ M) ns k = bootIx M (bootIx L ns k).1 (bootIx L ns k).2
 | [], _, _, _ => rfl
 |i :: L, M, ns, k => by rw [List.cons_append, bootIx_cons, bootIx_app L M, bootIx_cons]
theorem known_based {d : Dsk} {r : RDsk} {k : Nat} (h : DR d r k) (i : Nat) : knownB d i = basedB d i := by
 unfold knownB
 cases hs : d.seen.any (fun p => decide (p.2 = i)) with
 |true =>
  rw [seen_based h hs]
  rfl
 |false =>
  rw [Bool.false_or]
  rfl
theorem known_alike {d : Dsk} {r : RDsk} {k : Nat} (h : DR d r k) {i : Nat} (hi : i < d.nodes.length) : knownR r i = knownB d i := by
 unfold knownR knownB
 rw [← h.seen, ← h.sure, h.made i hi]
theorem bootF_succ (m : RDsk) (keep : List Int) (i n : Nat) : bootF m keep (i + 1) n = ((bootF m keep i n).1 ++ [⟨(if knownR m i then bootW keep (filAt m i).waits (bootF m keep i n).2 (filAt m i).sure else ((bootF m keep i n).2, (filAt m i).sure)).2, (if knownR m i then bootW keep (filAt m i).waits (bootF m keep i n).2 (filAt m i).sure else ((bootF m keep i n).2, (filAt m i).sure)).2, []⟩], (if knownR m i then bootW keep (filAt m i).waits (bootF m keep i n).2 (filAt m i).sure else ((bootF m keep i n).2, (filAt m i).sure)).1) := rfl
theorem boot_files {d : Dsk} {r : RDsk} {k : Nat} (h : DR d r k) (keep : List Int) : ∀ j, j ≤ d.nodes.length →
  (bootIx ((List.range j).filter (knownB d)) d.nodes keep).2 = keep.drop (bootF r keep j 0).2 ∧ (bootF r keep j 0).1.length = j ∧
  (∀ i, j ≤ i → (bootIx ((List.range j).filter (knownB d)) d.nodes keep).1[i]? = d.nodes[i]?) ∧
  ∀ i, i < j → knownB d i = true → ∃ x, (bootIx ((List.range j).filter (knownB d)) d.nodes keep).1[i]? = some x ∧ (bootF r keep j 0).1[i]? = some (filOf x)
 | 0, _ => ⟨rfl, rfl, fun _ _ => rfl, fun i hi => absurd hi (Nat.not_lt_zero i)⟩
 |j + 1, hj => by
  obtain ⟨h1, h2, h3, h4⟩ := boot_files h keep j (by omega)
  have hlen := bootIx_len ((List.range j).filter (knownB d)) d.nodes keep
  rw [bootF_succ, known_alike h (by omega), List.range_succ, List.filter_append, bootIx_app]
  cases hk : knownB d j with
  |false =>
   have e : List.filter (knownB d) [j] = [] := by simp [hk]
   rw [e]
   simp only [Bool.false_eq_true, if_false]
   refine ⟨h1, by rw [List.length_append, h2]; rfl, fun i hi => h3 i (by omega), fun i hi hki => ?_⟩
   have hij : i < j := by
    rcases Nat.lt_or_eq_of_le (Nat.le_of_lt_succ hi) with hh | hh
    ·exact hh
    ·rw [hh, hk] at hki; cases hki
   obtain ⟨x, hx1, hx2⟩ := h4 i hij hki
   exact ⟨x, hx1, by rw [List.getElem?_append_left (by omega)]; exact hx2⟩
  |true =>
   have e : List.filter (knownB d) [j] = [j] := by simp [hk]
   have hb : basedB d j = true := by rw [← known_based h]; exact hk
   have hnj : (bootIx ((List.range j).filter (knownB d)) d.nodes keep).1.getD j zeroN = nodD d j := by
    unfold nodD
    rw [List.getD_eq_getElem?_getD, List.getD_eq_getElem?_getD, h3 j (Nat.le_refl _)]
   rw [e, filAt_of h (by omega) hb]
   simp only [if_true]
   rw [bootIx_cons, hnj, h1]
   show (bootPats (nodD d j).pats (nodD d j).sure (keep.drop (bootF r keep j 0).2)).2 = _ ∧ _ ∧ _ ∧ _
   have hbp := bootW_pats keep (nodD d j).pats (bootF r keep j 0).2 (nodD d j).sure
   have hN : bootN (nodD d j) (keep.drop (bootF r keep j 0).2) = ⟨(bootW keep (nodD d j).pats (bootF r keep j 0).2 (nodD d j).sure).2, (bootW keep (nodD d j).pats (bootF r keep j 0).2 (nodD d j).sure).2, [], (nodD d j).fresh⟩ := by
    unfold bootN
    rw [hbp]
   rw [hN, hbp]
   have hI : ∀ i, (bootIx [] ((bootIx ((List.range j).filter (knownB d)) d.nodes keep).1.set j ⟨(bootW keep (nodD d j).pats (bootF r keep j 0).2 (nodD d j).sure).2, (bootW keep (nodD d j).pats (bootF r keep j 0).2 (nodD d j).sure).2, [], (nodD d j).fresh⟩) (keep.drop (bootW keep (nodD d j).pats (bootF r keep j 0).2 (nodD d j).sure).1)).1[i]? = if j = i then (if j < d.nodes.length then some ⟨(bootW keep (nodD d j).pats (bootF r keep j 0).2 (nodD d j).sure).2, (bootW keep (nodD d j).pats (bootF r keep j 0).2 (nodD d j).sure).2, [], (nodD d j).fresh⟩ else none) else (bootIx ((List.range j).filter (knownB d)) d.nodes keep).1[i]? := fun i => by
    show (List.set _ _ _)[i]? = _
    rw [List.getElem?_set, hlen]
   refine ⟨rfl, by rw [List.length_append, h2]; rfl, fun i hi => ?_, fun i hi hki => ?_⟩
   ·rw [hI, if_neg (by omega)]
    exact h3 i (by omega)
   ·rw [hI]
    by_cases hij : j = i
    ·subst hij
     rw [if_pos rfl, if_pos (by omega)]
     refine ⟨_, rfl, ?_⟩
     rw [show (bootF r keep j 0).1 ++ [_] = (bootF r keep j 0).1 ++ [_] from rfl, List.getElem?_append_right (by omega), h2, Nat.sub_self]
     rfl
    ·rw [if_neg hij]
     obtain ⟨x, hx1, hx2⟩ := h4 i (by omega) hki
     exact ⟨x, hx1, by rw [List.getElem?_append_left (by omega)]; exact hx2⟩
theorem gone_based {d : Dsk} {r : RDsk} {k : Nat} (h : DR d r k) (j : Nat) : ∀ p ∈ goneD d.sure d.moves j, basedB d p.2 = true := by
 unfold goneD
 have hm : ∀ m ∈ d.moves.take j, basedB d m.node = true := fun m hh => h.mb m (List.mem_of_mem_take hh)
 have hs : ∀ p ∈ d.sure, basedB d p.2 = true := fun p hp => by
  unfold basedB
  rw [List.any_eq_true.2 ⟨p, hp, decide_eq_true rfl⟩]
  rfl
 generalize d.moves.take j = ms at hm
 generalize d.sure = l at hs
 induction ms generalizing l with
 |nil => exact hs
 |cons m ms ih =>
  refine ih (fun x hx => hm x (List.mem_cons_of_mem _ hx)) _ (fun p hp => ?_)
  rcases give_mem hp with hp | rfl
  ·exact hs p hp
  ·exact hm m (List.mem_cons_self ..)
theorem gone_names {d : Dsk} {r : RDsk} {k : Nat} (h : DR d r k) (j : Nat) : ∀ p ∈ goneD d.sure d.moves j, p.1.length ≤ 32 := by
 unfold goneD
 have hm : ∀ m ∈ d.moves.take j, m.name.length ≤ 32 := fun m hh => h.nv m (List.mem_of_mem_take hh)
 have hs := h.nu
 generalize d.moves.take j = ms at hm
 generalize d.sure = l at hs
 induction ms generalizing l with
 |nil => exact hs
 |cons m ms ih =>
  refine ih (fun x hx => hm x (List.mem_cons_of_mem _ hx)) _ (fun p hp => ?_)
  rcases give_mem hp with hp | rfl
  ·exact hs p hp
  ·exact hm m (List.mem_cons_self ..)
theorem trap_none (c : Int) : TrapR (-1) (-1) c := .inl ⟨rfl, by decide, by decide⟩
theorem neg_one : ¬ (0 : Int) ≤ -1 := by decide
theorem boot_alike {d : Dsk} {r : RDsk} {k : Nat} (h : DR d r k) (t : Int) (keep : List Int) : (bootD d t keep).2 = (bootR r t keep).2 ∧ DR (bootD d t keep).1 (bootR r t keep).1 k := by
 unfold bootD bootR
 rw [← h.off]
 cases ho : d.off with
 |false => exact ⟨rfl, h⟩
 |true =>
  rw [if_neg (by simp), if_neg (by simp)]
  refine ⟨rfl, ?_⟩
  obtain ⟨-, b2, b3, b4⟩ := boot_files h keep d.nodes.length (Nat.le_refl _)
  have hseen : (r.waits.take t.toNat).foldl doR r.sure = (d.moves.take t.toNat).foldl giveN d.sure := by
   rw [← h.sure]
   exact h.turns t.toNat
  have hlen := bootIx_len (knownL d) d.nodes keep
  have := fix_alike (d := { d with nodes := (bootIx (knownL d) d.nodes keep).1, seen := (d.moves.take t.toNat).foldl giveN d.sure, off := false, fail := (-1, 0), crash := (-1, 0) }) (r := { r with files := (bootF r keep r.files.length 0).1, now := (r.waits.take t.toNat).foldl doR r.sure, down := false, fail := -1, crash := -1 }) (k := k)
   (by show (bootF r keep r.files.length 0).1.length = (bootIx (knownL d) d.nodes keep).1.length; rw [hlen, h.flen]; exact b2)
   (fun i x hx hb => by
    have hx : (bootIx (knownL d) d.nodes keep).1[i]? = some x := hx
    have hi : i < d.nodes.length := by
     have := (List.getElem?_eq_some_iff.1 hx).1
     rw [hlen] at this
     exact this
    obtain ⟨p, hp, e⟩ := List.any_eq_true.1 hb
    have hkn : knownB d i = true := by
     rw [known_based h, ← of_decide_eq_true e]
     exact gone_based h t.toNat p hp
    obtain ⟨y, hy1, hy2⟩ := b4 i hi hkn
    have hxy : x = y := Option.some.inj (hx.symm.trans hy1)
    show (bootF r keep r.files.length 0).1[i]? = some (filOf x)
    rw [hxy, h.flen]
    exact hy2)
   hseen.symm h.room rfl h.count (trap_none _) (fun hh => absurd hh neg_one) (trap_none _)
   (by show NmsOk _ (bootIx (knownL d) d.nodes keep).1.length; rw [hlen]; exact h.oku.gone h.mv t.toNat) (gone_names h t.toNat) h.c0 h.c1
  exact this
theorem few_boot_dr {d : Dsk} {r : RDsk} {k k' : Nat} (hF : Few d k) (h : DR d r k') (t : Int) (ks : List Int) : Few (bootD d t ks).1 k := by
 have h2 := few_boot hF t ks
 obtain ⟨-, h3⟩ := boot_alike h t ks
 have hn : (bootD d t ks).1.nodes.length ≤ k := by
  unfold bootD
  split
  ·exact hF.n
  ·show (List.map staleN (bootIx (knownL d) d.nodes ks).1).length ≤ k
   rw [List.length_map, bootIx_len]
   exact hF.n
 refine ⟨h2.c0, ?_, ?_, hn, ?_, Nat.le_trans h3.ok.len hn, Nat.le_trans h3.oku.len hn⟩
 ·unfold bootD
  split
  ·exact hF.c1
  ·exact hF.c1
 ·unfold bootD
  split
  ·exact hF.m
  ·exact Nat.zero_le _
 ·unfold bootD
  split
  ·exact hF.p
  ·intro y hy
   have hy : y ∈ (List.map staleN (bootIx (knownL d) d.nodes ks).1) := hy
   obtain ⟨z, hz, rfl⟩ := List.mem_map.1 hy
   exact bootIx_pats _ _ _ hF.p z hz
end Vd
end Go.Proofs.YtcleakjjefmmbaaGreat
