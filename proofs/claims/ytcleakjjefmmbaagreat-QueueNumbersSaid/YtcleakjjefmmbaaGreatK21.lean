/- Several texts in one: VdChange, VdText, VdRead, VdArm, VdNode, VdSync, VdTurn, VdBorn. -/
import Derived.Test.YtcleakjjefmmbaaGreatVdFind
import Derived.Test.YtcleakjjefmmbaaGreatK20
import Derived.Test.YtcleakjjefmmbaaGreatK00
import Derived.Test.YtcleakjjefmmbaaGreatK02
/- Disk.change, touch. -/
namespace Go.Proofs.YtcleakjjefmmbaaGreat
open Go.RowKit
namespace Vd
open Go.Maps

theorem spring_u (w : World) {b o : Nat} {t : TypeId} {cs : Array Value} {n : Int} (hB : Blk w b t cs) (hc : cs[o]? = some (.int .i64 n)) (hm : -1 ≤ n ∧ n ≤ 4611686018427387904) : Calls Tryz.prog 148 #[.pointer (some ⟨b, o, none⟩)] w fun e w' => e = .returned (.bool (springT n).2) ∧ Blk w' b t (cs.setIfInBounds o (.int .i64 (springT n).1)) ∧ Mods (· = b) w w' := by
 have hcell : w.cell? ⟨b, o, none⟩ = some (.int .i64 n) := by rw [hB.cell]; exact hc
 unfold springT
 by_cases hn : n < 0
 ·rw [if_pos hn]
  refine (spring_no w hcell hn).mono ?_
  rintro e w' ⟨rfl, rfl⟩
  refine ⟨rfl, ?_, Mods.refl _ _⟩
  have : cs.setIfInBounds o (.int .i64 n) = cs := by
   apply Array.ext_getElem?
   intro j
   rw [Array.getElem?_setIfInBounds]
   split
   ·rename_i h
    subst h
    split
    ·exact hc.symm
    ·rename_i h2
     rw [Array.getElem?_eq_none (by omega)]
   ·rfl
  rw [this]
  exact hB
 ·rw [if_neg hn]
  refine (spring_any w hcell (hB.frozen _) (by omega) (by omega)).mono ?_
  rintro e w' ⟨rfl, rfl⟩
  exact ⟨rfl, hB.set_ o _, (Mods.refl (· = b) w).setCell (p := ⟨b, o, none⟩) (fun _ => rfl) _⟩
theorem springT_in {n : Int} (h : -1 ≤ n ∧ n ≤ 4611686018427387904) : -1 ≤ (springT n).1 ∧ (springT n).1 ≤ 4611686018427387904 := by
 unfold springT
 split
 ·exact h
 ·simp only; omega
/-- a call that changes is counted; what it answers, if it can't be done at all -/
def changeD (d : Dsk) : Dsk × Int :=
 if d.off then (d, 11)
 else if (springT d.crash.1).2 then ({ d with off := true, count := d.count + 1, fail := ((springT d.fail.1).1, d.fail.2), crash := ((springT d.crash.1).1, d.crash.2) }, 11)
 else if (springT d.fail.1).2 then ({ d with off := false, count := d.count + 1, fail := ((springT d.fail.1).1, d.fail.2), crash := ((springT d.crash.1).1, d.crash.2) }, d.fail.2)
 else ({ d with off := false, count := d.count + 1, fail := ((springT d.fail.1).1, d.fail.2), crash := ((springT d.crash.1).1, d.crash.2) }, 0)
/-- what a call made of a disk -/
def DskDid (W : World) (S : Nat → Prop) (g : Nat) (r : Dsk × Int) (e : Ending) (w' : World) : Prop := e = .returned (.int .i64 r.2) ∧ DiskAt w' S g r.1 ∧ Mods S W w'

set_option maxRecDepth 100000 in
set_option maxHeartbeats 2000000 in
theorem change_any (w : World) {S : Nat → Prop} {g : Nat} {d : Dsk} (h : DiskAt w S g d) (hn : -1 ≤ d.count ∧ d.count ≤ 9000000000000000000) : Calls Tryz.prog 76 #[.pointer (some ⟨g, 0, none⟩)] w (DskDid w S g (changeD d)) := by
 obtain ⟨b1, b2, nv, mv, nb, h⟩ := h
 have HD := Lib.hid h
 obtain ⟨-, -, -, -, -, c5, c6, -⟩ := h.cells
 have z6 : w.frozen? ⟨g, 6, none⟩ = false := h.blk.frozen _
 have hw1 : IntKind.i64.wrap (d.count + 1) = d.count + 1 := by rw [IntKind.wrap_i64]; omega
 clear h
 unfold DskDid
 cases ho : d.off with
 |true =>
  rw [ho] at c5
  have HX : Hid (changeD d = (d, 11)) := Lib.hid (by unfold changeD; rw [if_pos ho])
  go_enter Tryz.func76, Tryz.ntmps76
  go_wp2_with fail
  go_ret
  exact ⟨(congrArg (fun r : Dsk × Int => Ending.returned (Value.int .i64 r.2)) HX.out).symm, by rw [HX.out]; exact ⟨_, _, _, _, _, HD.out⟩, Mods.refl _ _⟩
 |false =>
  rw [ho] at c5
  have HX0 : Hid (changeD d = if (springT d.crash.1).2 then ({ d with off := true, count := d.count + 1, fail := ((springT d.fail.1).1, d.fail.2), crash := ((springT d.crash.1).1, d.crash.2) }, 11)
   else if (springT d.fail.1).2 then ({ d with off := false, count := d.count + 1, fail := ((springT d.fail.1).1, d.fail.2), crash := ((springT d.crash.1).1, d.crash.2) }, d.fail.2)
   else ({ d with off := false, count := d.count + 1, fail := ((springT d.fail.1).1, d.fail.2), crash := ((springT d.crash.1).1, d.crash.2) }, 0)) := Lib.hid (by unfold changeD; rw [ho]; rfl)
  go_enter Tryz.func76, Tryz.ntmps76
  go_upto_region 4 with fail
  have HB := Lib.hid (show Blk (World.drew (w.setCell ⟨g, 6, none⟩ (.int .i64 (d.count + 1)))) g 89 (diskA { d with count := d.count + 1 } nv b1 b2 mv) from HD.out.blk.set_ 6 _)
  have HM := Lib.hid ((Mods.refl (· = g) w).setCell (p := ⟨g, 6, none⟩) (fun _ => rfl) (.int .i64 (d.count + 1)))
  generalize World.setCell w ⟨g, 6, none⟩ (.int .i64 (d.count + 1)) = w1 at *
  clear c5 c6 z6 hw1
  have HT := Lib.hid (And.intro HD.out.fit.tf HD.out.fit.tc)
  go_cut [3, 4] (fun a b wx => a = .bool (springT d.crash.1).2 ∧ b = .bool (springT d.fail.1).2 ∧ Hid (Mods (· = g) w1 wx ∧ Blk wx g 89 (diskA { d with count := d.count + 1, fail := ((springT d.fail.1).1, d.fail.2), crash := ((springT d.crash.1).1, d.crash.2) } nv b1 b2 mv)))
  case first =>
   refine wp_region_noPanic ?_
   refine wp_region_held_drew (S := fun w' => Mods (· = g) w1 w') (by kernel_rfl) ((Mods.refl (· = g) w1).drew) (fun _ => ?_)
   have hHeld : Mods (· = g) w1 (w1).drew := (Mods.refl (· = g) w1).drew
   generalize World.drew w1 = xs at *
   refine tq 0 16 ?_
   refine tq 1 17 ?_
   refine tq 2 18 ?_
   refine tq 4 20 ?_
   refine tq 5 21 ?_
   refine tq 6 22 ?_
   refine rd1 3 (fun K hK => ?_)
   go_simp
   refine (spring_u _ HB.out rfl HT.out.2).mono ?_
   rintro e yA ⟨rfl, hB1, hM1⟩
   have hb := hHeld.trans hM1 (fun x hx _ => hx)
   have HB := Lib.hid hB1
   clear hB1 hM1
   go_wp2_with fail
   refine bkm hK hb ?_
   clear hK K hHeld
   have hHeld : Mods (· = g) w1 yA := hb
   clear hb
   refine rd1 7 (fun K hK => ?_)
   go_simp
   refine (spring_u _ HB.out rfl HT.out.1).mono ?_
   rintro e yB ⟨rfl, hB1, hM1⟩
   have hb := hHeld.trans hM1 (fun x hx _ => hx)
   have HB := Lib.hid hB1
   clear hB1 hM1
   go_wp2_with fail
   refine bkm hK hb ?_
   clear hK K hHeld
   have hHeld : Mods (· = g) w1 yB := hb
   clear hb
   refine tq 8 3 ?_
   refine tq 9 4 ?_
   refine wpAnyH_done (by kernel_rfl) ?_ _
   refine NoPanic.normal ?_
   go_wp2_with fail
   go_meet
   exact ⟨rfl, rfl, Lib.hid ⟨hHeld, HB.out⟩⟩
  case rest =>
  obtain ⟨rfl, rfl, HC⟩ := hcut
  obtain ⟨w2, rfl⟩ : ∃ z : World, z = wc := ⟨_, rfl⟩
  have hM2 := HM.out.trans HC.out.1 (fun x hx _ => hx)
  have HM2 := Lib.hid hM2
  have HBx := Lib.hid HC.out.2
  have HSP := Lib.hid (And.intro (springT_in HT.out.1) (springT_in HT.out.2))
  have HMS := Lib.hid (fun (y : World) (hy : Mods (· = g) w y) => (show Mods S w y from hy.mono (fun k hk => by subst hk; exact HD.out.sg)))
  clear hM2 HC HM HB HT
  have x5 : w2.cell? ⟨g, 5, none⟩ = some (.bool d.off) := by rw [HBx.out.cell]; rfl
  have x8 : w2.cell? ⟨g, 8, none⟩ = some (.int .i64 d.fail.2) := by rw [HBx.out.cell]; rfl
  have z5 : w2.frozen? ⟨g, 5, none⟩ = false := HBx.out.frozen _
  generalize (springT d.crash.1).2 = sc at *
  generalize (springT d.fail.1).2 = sf at *
  cases sc with
  |true =>
   have HX := Lib.hid (HX0.out.trans (if_pos rfl))
   go_wp2_with fail
   go_ret
   have hM3 := HM2.out.setCell (p := ⟨g, 5, none⟩) (fun _ => rfl) (.bool true)
   exact ⟨(congrArg (fun r : Dsk × Int => Ending.returned (Value.int .i64 r.2)) HX.out).symm, by rw [HX.out]; exact ⟨_, _, _, _, _, HD.out.turn hM3 (HBx.out.set_ 5 _) HSP.out.1 HSP.out.2⟩, HMS.out _ hM3⟩
  |false =>
   have HB2 := Lib.hid (show Blk w2 g 89 (diskA { d with off := false, count := d.count + 1, fail := ((springT d.fail.1).1, d.fail.2), crash := ((springT d.crash.1).1, d.crash.2) } nv b1 b2 mv) from by rw [← ho]; exact HBx.out)
   cases sf with
   |true =>
    have HX := Lib.hid (HX0.out.trans ((if_neg (by simp)).trans (if_pos rfl)))
    go_wp2_with fail
    go_ret
    exact ⟨(congrArg (fun r : Dsk × Int => Ending.returned (Value.int .i64 r.2)) HX.out).symm, by rw [HX.out]; exact ⟨_, _, _, _, _, HD.out.turn HM2.out HB2.out HSP.out.1 HSP.out.2⟩, HMS.out _ HM2.out⟩
   |false =>
    have HX := Lib.hid (HX0.out.trans ((if_neg (by simp)).trans (if_neg (by simp))))
    go_wp2_with fail
    go_ret
    exact ⟨(congrArg (fun r : Dsk × Int => Ending.returned (Value.int .i64 r.2)) HX.out).symm, by rw [HX.out]; exact ⟨_, _, _, _, _, HD.out.turn HM2.out HB2.out HSP.out.1 HSP.out.2⟩, HMS.out _ HM2.out⟩
end Vd
end Go.Proofs.YtcleakjjefmmbaaGreat

/- Disk.touch, text, Read, ReadAt, Size, Down, Crash. -/
namespace Go.Proofs.YtcleakjjefmmbaaGreat
open Go.RowKit
namespace Vd
open Go.Maps

theorem changeD_seen (d : Dsk) : (changeD d).1.seen = d.seen ∧ (changeD d).1.nodes = d.nodes ∧ (changeD d).1.sure = d.sure ∧ (changeD d).1.moves = d.moves ∧ (changeD d).1.room = d.room := by
 unfold changeD
 split
 ·exact ⟨rfl, rfl, rfl, rfl, rfl⟩
 ·split
  ·exact ⟨rfl, rfl, rfl, rfl, rfl⟩
  ·split <;> exact ⟨rfl, rfl, rfl, rfl, rfl⟩
/-- a change of the node of a name: the disk, the node, the answer -/
def touchD (d : Dsk) (x : Str) : Dsk × Nat × Int := if (changeD d).2 ≠ 0 then ((changeD d).1, 0, (changeD d).2) else ((changeD d).1, (look d.seen x).getD 0, findE d.seen x)
def TouchDid (W : World) (S : Nat → Prop) (g : Nat) (r : Dsk × Nat × Int) (e : Ending) (w' : World) : Prop := e = .returned (.tuple #[.int .i64 (r.2.1 : Int), .int .i64 r.2.2]) ∧ DiskAt w' S g r.1 ∧ Mods S W w'
set_option maxRecDepth 100000 in
set_option maxHeartbeats 1000000 in
theorem touch_any (w : World) {S : Nat → Prop} {g : Nat} {d : Dsk} (h : DiskAt w S g d) (hn : -1 ≤ d.count ∧ d.count ≤ 9000000000000000000) (x : Str) (hx : x.length ≤ maxLen) : Calls Tryz.prog 154 #[.pointer (some ⟨g, 0, none⟩), .string (bstr x)] w (TouchDid w S g (touchD d x)) := by
 have HC := Lib.hid (change_any w h hn)
 have HSE := Lib.hid (changeD_seen d).1
 clear h
 unfold TouchDid
 have HX0 : Hid (touchD d x = if (changeD d).2 ≠ 0 then ((changeD d).1, 0, (changeD d).2) else ((changeD d).1, (look d.seen x).getD 0, findE d.seen x)) := Lib.hid rfl
 generalize changeD d = cd at *
 obtain ⟨d1, e1⟩ := cd
 go_enter Tryz.func154, Tryz.ntmps154
 go_wp2_with fail
 refine HC.out.mono ?_
 rintro e w1 ⟨rfl, hd, hm⟩
 have HD := Lib.hid (show DiskAt w1 S g d1 from hd)
 have HM := Lib.hid hm
 have HSE := Lib.hid (show d1.seen = d.seen from HSE.out)
 clear hd hm HC
 by_cases he : e1 = 0
 ·subst he
  have HX := Lib.hid (HX0.out.trans (if_neg (by simp)))
  have HF := Lib.hid (find_any w1 HD.out x hx)
  rw [HSE.out] at HF
  go_wp2_with fail
  refine HF.out.mono ?_
  rintro e w2 ⟨rfl, rfl⟩
  go_wp2_with fail
  go_ret2
  exact ⟨(congrArg (fun r : Dsk × Nat × Int => Ending.returned (Value.tuple #[.int .i64 (r.2.1 : Int), .int .i64 r.2.2])) HX.out).symm, by rw [HX.out]; exact HD.out, HM.out⟩
 ·have HX := Lib.hid (HX0.out.trans (if_pos he))
  have he' : (e1 != 0) = true := by simp [he]
  clear he
  go_wp2_with fail
  go_ret2
  exact ⟨(congrArg (fun r : Dsk × Nat × Int => Ending.returned (Value.tuple #[.int .i64 (r.2.1 : Int), .int .i64 r.2.2])) HX.out).symm, by rw [HX.out]; exact HD.out, HM.out⟩
def textD (d : Dsk) (x : Str) : Str × Int := if d.off then ([], 11) else match look d.seen x with
 |none => ([], 7)
 |some i => (((d.nodes[i]?).map (·.seen)).getD [], 0)
theorem textD_len {d : Dsk} (h : Fit d) (x : Str) : (textD d x).1.length ≤ 1000000000 := by
 unfold textD
 split
 ·exact Nat.zero_le _
 ·split
  ·exact Nat.zero_le _
  ·rename_i i hi
   cases hx : d.nodes[i]? with
   |none => exact Nat.zero_le _
   |some y => exact (h.ns y (List.mem_of_getElem? hx)).1
theorem DiskIn.nodeAt {w : World} {S : Nat → Prop} {g b1 b2 : Nat} {nv mv : Value} {nb : List NB} {d : Dsk} (h : DiskIn w S g b1 b2 nv mv nb d) {i : Nat} (hi : i < d.nodes.length) : ∃ gn c k pv, nv = .slice (some ⟨gn, 0, none⟩) d.nodes.length c ∧ nb[i]? = some (k, pv) ∧ w.cell? ⟨gn, i, none⟩ = some (.pointer (some ⟨k, 0, none⟩)) ∧ NodB w (k, pv) d.nodes[i] := by
 have hl := h.len
 obtain ⟨gn, cap, hv, -, -, -, hc⟩ := Frm.ownsRow_at h.row (by omega)
 have hi' : i < nb.length := by omega
 refine ⟨gn, cap, (nb[i]).1, (nb[i]).2, by rw [hv, hl], by rw [List.getElem?_eq_getElem hi'], hc i _ (by simp [List.getElem?_eq_getElem hi']), h.nod i hi' hi⟩
set_option maxRecDepth 100000 in
set_option maxHeartbeats 1000000 in
theorem text_any (w : World) {S : Nat → Prop} {g : Nat} {d : Dsk} (h : DiskAt w S g d) (x : Str) (hx : x.length ≤ maxLen) : Calls Tryz.prog 157 #[.pointer (some ⟨g, 0, none⟩), .string (bstr x)] w fun e w' => e = .returned (.tuple #[.string (bstr (textD d x).1), .int .i64 (textD d x).2]) ∧ w = w' := by
 have HF := Lib.hid (find_any w h x hx)
 obtain ⟨b1, b2, nv, mv, nb, h⟩ := h
 have HD := Lib.hid h
 obtain ⟨-, c1, -, -, -, c5, -⟩ := h.cells
 clear h
 cases ho : d.off with
 |true =>
  rw [ho] at c5
  have HX : Hid (textD d x = ([], 11)) := Lib.hid (by unfold textD; rw [if_pos ho])
  go_enter Tryz.func157, Tryz.ntmps157
  go_wp2_with fail
  go_ret2
  exact ⟨by rw [HX.out]; rfl, rfl⟩
 |false =>
  rw [ho] at c5
  cases hlk : look d.seen x with
  |none =>
   have HX : Hid (textD d x = ([], 7)) := Lib.hid (by unfold textD; rw [ho, hlk]; rfl)
   have hfe : findE d.seen x = 7 := by unfold findE; rw [hlk]; rfl
   rw [hfe, hlk] at HF
   clear hfe hlk
   go_enter Tryz.func157, Tryz.ntmps157
   go_wp2_with fail
   refine HF.out.mono ?_
   rintro e w1 ⟨rfl, rfl⟩
   go_wp2_with fail
   go_ret2
   exact ⟨by rw [HX.out]; rfl, rfl⟩
  |some i =>
   have hin : i < d.nodes.length := HD.out.fit.is _ ((look_mem HD.out.seen.asc).1 hlk)
   have HX : Hid (textD d x = (d.nodes[i].seen, 0)) := Lib.hid (by unfold textD; rw [ho, hlk]; simp [List.getElem?_eq_getElem hin])
   have hfe : findE d.seen x = 0 := by unfold findE; rw [hlk]; rfl
   rw [hfe, hlk] at HF
   simp only [Option.getD_some] at HF
   obtain ⟨gn, c, k, pv, rfl, -, n0, hn⟩ := HD.out.nodeAt hin
   have n1 : w.cell? ⟨k, 0, none⟩ = some (.string (bstr d.nodes[i].seen)) := by rw [hn.blk.cell]; rfl
   generalize d.nodes[i].seen = sx at *
   clear hfe hlk hn
   go_enter Tryz.func157, Tryz.ntmps157
   go_wp2_with fail
   refine HF.out.mono ?_
   rintro e w1 ⟨rfl, rfl⟩
   go_wp2_with fail
   go_ret2
   exact ⟨by rw [HX.out]; rfl, rfl⟩
theorem down_any (w : World) {S : Nat → Prop} {g : Nat} {d : Dsk} (h : DiskAt w S g d) : Calls Tryz.prog 25 #[.pointer (some ⟨g, 0, none⟩)] w fun e w' => e = .returned (.bool d.off) ∧ w = w' := by
 obtain ⟨b1, b2, nv, mv, nb, h⟩ := h
 obtain ⟨-, -, -, -, -, c5, -⟩ := h.cells
 clear h
 go_enter Tryz.func25, Tryz.ntmps25
 go_wp2_with fail
 go_ret
 exact ⟨rfl, rfl⟩
end Vd
end Go.Proofs.YtcleakjjefmmbaaGreat

/- Disk.Read, ReadAt, Size, Crash, Fail. -/
namespace Go.Proofs.YtcleakjjefmmbaaGreat
open Go.RowKit
namespace Vd
open Go.Maps

def ReadDid (W : World) (r : Str × Int) (e : Ending) (w' : World) : Prop := ∃ v, e = .returned (.tuple #[v, .int .i64 r.2]) ∧ Row w' v (r.1.map u8v) ∧ Keeps W w'
set_option maxRecDepth 100000 in
set_option maxHeartbeats 1000000 in
theorem read_any (w : World) {S : Nat → Prop} {g : Nat} {d : Dsk} (h : DiskAt w S g d) (x : Str) (hx : x.length ≤ maxLen) : Calls Tryz.prog 87 #[.pointer (some ⟨g, 0, none⟩), .string (bstr x)] w (ReadDid w (textD d x)) := by
 have HT := Lib.hid (text_any w h x hx)
 obtain ⟨b1, b2, nv, mv, nb, h⟩ := h
 have hl := textD_len h.fit x
 clear h
 unfold ReadDid
 generalize textD d x = r at *
 obtain ⟨s, er⟩ := r
 have hl : s.length ≤ 1000000000 := hl
 obtain ⟨c, w5, hrun, hrow, hk⟩ := str_bytes (P := Tryz.prog) w Tryz.underlying53 Tryz.underlying5 Tryz.underlying9 (bstr s) (by rw [bstr_size]; unfold maxLen; omega)
 have HR := Lib.hid (And.intro hrow hk)
 clear hrow hk
 go_enter Tryz.func87, Tryz.ntmps87
 go_wp2_with fail
 refine HT.out.mono ?_
 rintro e w1 ⟨rfl, rfl⟩
 go_wp2_with fail
 go_ret2
 exact ⟨_, rfl, HR.out.1, HR.out.2⟩
end Vd
end Go.Proofs.YtcleakjjefmmbaaGreat

/- Disk.Crash, Fail. -/
namespace Go.Proofs.YtcleakjjefmmbaaGreat
open Go.RowKit
namespace Vd
open Go.Maps

theorem setT_in (n e : Int) : -1 ≤ (setT n e).1 ∧ (setT n e).1 ≤ 4611686018427387904 := by
 unfold setT
 split
 ·decide
 ·rename_i h
  simp only
  omega
set_option maxRecDepth 100000 in
set_option maxHeartbeats 1000000 in
theorem crash_any (w : World) {S : Nat → Prop} {g : Nat} {d : Dsk} (h : DiskAt w S g d) (n : Int) : Calls Tryz.prog 23 #[.pointer (some ⟨g, 0, none⟩), .int .i64 n] w fun e w' => e = .returned (.tuple #[]) ∧ DiskAt w' S g { d with crash := setT n 11 } ∧ Mods S w w' := by
 obtain ⟨b1, b2, nv, mv, nb, h⟩ := h
 have HD := Lib.hid h
 have HIN := Lib.hid (setT_in n 11)
 clear h
 have HST := Lib.hid (set_any n 11 w)
 unfold SetDid trapA at HST
 generalize setT n 11 = tr at *
 obtain ⟨t1, t2⟩ := tr
 go_enter Tryz.func23, Tryz.ntmps23
 go_wp2_with fail
 refine HST.out.mono ?_
 rintro e w1 ⟨rfl, hk⟩
 have HD1 := Lib.hid (HD.out.keeps hk)
 have HK := Lib.hid hk
 have c9 : w1.cell? ⟨g, 9, none⟩ = some (.int .i64 d.crash.1) := by rw [HD1.out.blk.cell]; rfl
 have c10 : w1.cell? ⟨g, 10, none⟩ = some (.int .i64 d.crash.2) := by rw [HD1.out.blk.cell]; rfl
 have z9 : w1.frozen? ⟨g, 9, none⟩ = false := HD1.out.blk.frozen _
 have z10 : w1.frozen? ⟨g, 10, none⟩ = false := HD1.out.blk.frozen _
 clear hk HST
 go_wp2_with fail
 go_end0
 have hM : Mods (· = g) w1 ((w1.setCell ⟨g, 9, none⟩ (.int .i64 t1)).setCell ⟨g, 10, none⟩ (.int .i64 t2)) := ((Mods.refl (· = g) w1).setCell (p := ⟨g, 9, none⟩) (fun _ => rfl) _).setCell (p := ⟨g, 10, none⟩) (fun _ => rfl) _
 exact ⟨rfl, ⟨_, _, _, _, _, HD1.out.turn hM ((HD1.out.blk.set_ 9 _).set_ 10 _) HD1.out.fit.tf HIN.out⟩, (Mods.of_keeps HK.out).trans hM (fun x hx _ => by subst hx; exact HD.out.sg)⟩
/-- Fail: never by ErrDown -/
def failT (n e : Int) : Int × Int := setT n (if e = 11 then 0 else e)
set_option maxRecDepth 100000 in
set_option maxHeartbeats 1000000 in
theorem fail_any (w : World) {S : Nat → Prop} {g : Nat} {d : Dsk} (h : DiskAt w S g d) (n er : Int) : Calls Tryz.prog 22 #[.pointer (some ⟨g, 0, none⟩), .int .i64 n, .int .i64 er] w fun e w' => e = .returned (.tuple #[]) ∧ DiskAt w' S g { d with fail := failT n er } ∧ Mods S w w' := by
 obtain ⟨b1, b2, nv, mv, nb, h⟩ := h
 have HD := Lib.hid h
 clear h
 have key : ∀ (e2 : Int) (w1 : World), Keeps w w1 → ∀ (t : Int × Int), setT n e2 = t → (w1.cell? ⟨g, 7, none⟩ = some (.int .i64 d.fail.1)) ∧ (w1.cell? ⟨g, 8, none⟩ = some (.int .i64 d.fail.2)) ∧ w1.frozen? ⟨g, 7, none⟩ = false ∧ w1.frozen? ⟨g, 8, none⟩ = false ∧ DiskAt ((w1.setCell ⟨g, 7, none⟩ (.int .i64 t.1)).setCell ⟨g, 8, none⟩ (.int .i64 t.2)) S g { d with fail := t } ∧ Mods S w ((w1.setCell ⟨g, 7, none⟩ (.int .i64 t.1)).setCell ⟨g, 8, none⟩ (.int .i64 t.2)) := fun e2 w1 hk t ht => by
  have hd := HD.out.keeps hk
  have hM : Mods (· = g) w1 ((w1.setCell ⟨g, 7, none⟩ (.int .i64 t.1)).setCell ⟨g, 8, none⟩ (.int .i64 t.2)) := ((Mods.refl (· = g) w1).setCell (p := ⟨g, 7, none⟩) (fun _ => rfl) _).setCell (p := ⟨g, 8, none⟩) (fun _ => rfl) _
  refine ⟨by rw [hd.blk.cell]; rfl, by rw [hd.blk.cell]; rfl, hd.blk.frozen _, hd.blk.frozen _, ⟨_, _, _, _, _, hd.turn hM ((hd.blk.set_ 7 _).set_ 8 _) (by rw [← ht]; exact setT_in _ _) hd.fit.tc⟩, (Mods.of_keeps hk).trans hM (fun x hx _ => by subst hx; exact HD.out.sg)⟩
 have HKEY := Lib.hid key
 clear key
 unfold failT
 by_cases he : er = 11
 ·subst he
  rw [if_pos rfl]
  have HST := Lib.hid (set_any n 0 w)
  unfold SetDid trapA at HST
  have HT := Lib.hid (rfl : setT n 0 = setT n 0)
  generalize hts : setT n 0 = tr at *
  have HTS := Lib.hid hts
  clear hts HT
  obtain ⟨t1, t2⟩ := tr
  go_enter Tryz.func22, Tryz.ntmps22
  go_wp2_with fail
  refine HST.out.mono ?_
  rintro e w1 ⟨rfl, hk⟩
  obtain ⟨c7, c8, z7, z8, hd, hm⟩ := HKEY.out 0 w1 hk (t1, t2) HTS.out
  have HR := Lib.hid (And.intro hd hm)
  clear hd hm hk HST HKEY
  go_wp2_with fail
  go_end0
  exact ⟨rfl, HR.out.1, HR.out.2⟩
 ·rw [if_neg he]
  have he' : (er == 11) = false := by simp [he]
  have HST := Lib.hid (set_any n er w)
  unfold SetDid trapA at HST
  generalize hts : setT n er = tr at *
  have HTS := Lib.hid hts
  clear hts he
  obtain ⟨t1, t2⟩ := tr
  go_enter Tryz.func22, Tryz.ntmps22
  go_wp2_with fail
  refine HST.out.mono ?_
  rintro e w1 ⟨rfl, hk⟩
  obtain ⟨c7, c8, z7, z8, hd, hm⟩ := HKEY.out er w1 hk (t1, t2) HTS.out
  have HR := Lib.hid (And.intro hd hm)
  clear hd hm hk HST HKEY
  go_wp2_with fail
  go_end0
  exact ⟨rfl, HR.out.1, HR.out.2⟩
end Vd
end Go.Proofs.YtcleakjjefmmbaaGreat

/- A node of the disk is changed. -/
namespace Go.Proofs.YtcleakjjefmmbaaGreat
open Go.RowKit
namespace Vd
open Go.Maps

/-- a block of cells of a type -/
def Ty (w : World) (y : Nat) (t : TypeId) : Prop := ∃ cs, Blk w y t cs
theorem Ty.ne {w : World} {a b : Nat} {t u : TypeId} (h : Ty w a t) (k : Ty w b u) (hn : t ≠ u) : a ≠ b := by
 rintro rfl
 obtain ⟨cs, h⟩ := h
 obtain ⟨ds, k⟩ := k
 unfold Blk at h k
 rw [h] at k
 simp at k
 exact hn k.2
theorem owns_ty {w : World} {base C n : Nat} {e : TypeId} {v : Value} {xs : List Value} (h : w.ownsRow base e C v n xs) {y : Nat} (hy : v.ownBlock = some y) : Ty w y e := by
 rcases h.2 with ⟨rfl, _⟩ | ⟨q, cap, cur, rfl, _, hgg, _⟩
 ·simp [Value.ownBlock] at hy
 ·simp [Value.ownBlock] at hy
  subst hy
  exact ⟨cur, hgg⟩
theorem names_ty {w : World} {b n : Nat} {l : Nms} (h : NamesAt w b n l) {y : Nat} {t : TypeId} (k : Ty w y t) : b ≠ y := by
 rintro rfl
 obtain ⟨D, ⟨es, cl, hb, _⟩, _⟩ := h
 obtain ⟨cs, k⟩ := k
 unfold Blk at k
 rw [hb] at k
 simp at k
theorem Ty.lt {w : World} {y : Nat} {t : TypeId} (h : Ty w y t) : y < w.heap.size := let ⟨_, h⟩ := h; h.lt
theorem DiskIn.node {w w' : World} {S : Nat → Prop} {g b1 b2 : Nat} {nv mv : Value} {nb : List NB} {d : Dsk} (h : DiskIn w S g b1 b2 nv mv nb d) {i k : Nat} {pv : Value} (hi : i < d.nodes.length) (hk : nb[i]? = some (k, pv)) {T : Nat → Prop} (hM : Mods T w w') (hT : ∀ y, T y → y = k ∨ pv.ownBlock = some y) {x' : Nod} {pv' : Value} (hn : NodB w' (k, pv') x')
  (hp : ∀ y, pv'.ownBlock = some y → pv.ownBlock = some y ∨ (w.heap.size ≤ y ∧ y < w'.heap.size)) (hf : Fit { d with nodes := d.nodes.set i x' }) : DiskIn w' (More S w w') g b1 b2 nv mv (nb.set i (k, pv')) { d with nodes := d.nodes.set i x' } := by
 have hi' : i < nb.length := by rw [h.len]; exact hi
 have hki : nb[i] = (k, pv) := (List.getElem?_eq_some_iff.1 hk).2
 have hni := h.nod i hi' hi
 rw [hki] at hni
 have tk : Ty w k 95 := ⟨_, hni.blk⟩
 have tp : ∀ y, pv.ownBlock = some y → Ty w y 148 := fun y hy => owns_ty hni.pats hy
 have tT : ∀ y, T y → Ty w y 95 ∨ Ty w y 148 := fun y hy => by
  rcases hT y hy with rfl | h2
  ·exact .inl tk
  ·exact .inr (tp y h2)
 have nT : ∀ y t, Ty w y t → t ≠ 95 → t ≠ 148 → ¬ T y := fun y t ht h1 h2 hy => by
  rcases tT y hy with hh | hh
  ·exact ht.ne hh h1 rfl
  ·exact ht.ne hh h2 rfl
 have nM : ∀ {b n : Nat} {l : Nms}, NamesAt w b n l → ¬ T b := fun hn hy => by
  rcases tT _ hy with hh | hh <;> exact names_ty hn hh rfl
 have hsep : ∀ j (hj : j < nb.length), j ≠ i → ApartN nb[j] (k, pv) ∧ ApartN (k, pv) nb[j] := fun j hj hji => by
  have hs := List.pairwise_iff_getElem.1 h.sep
  rw [← hki]
  have sym : ∀ {p q : NB}, ApartN p q → ApartN q p := fun hh => ⟨fun e => hh.1 e.symm, fun y hy hy2 => hh.2 y hy2 hy⟩
  rcases Nat.lt_or_gt_of_ne hji with hlt | hlt
  ·exact ⟨hs j i hj hi' hlt, sym (hs j i hj hi' hlt)⟩
  ·exact ⟨sym (hs i j hi' hj hlt), hs i j hi' hj hlt⟩
 have hS : ∀ y, S y → More S w w' y := fun y hy => .inl hy
 refine ⟨h.blk.mods hM (nT g _ ⟨_, h.blk⟩ (by decide) (by decide)), ?_, by simp [h.len], ?_, ?_, h.seen.mods hM (nM h.seen), h.sure.mods hM (nM h.sure), Frm.ownsRow_mods h.mvs hM (fun y hy => nT y _ (owns_ty h.mvs hy) (by decide) (by decide)), h.d12, hS _ h.sg, hS _ h.s1, hS _ h.s2, fun y hy => hS _ (h.sn y hy), fun y hy => hS _ (h.sm y hy), ?_, hf⟩
 ·have hm : (nb.set i (k, pv')).map (fun p => Value.pointer (some ⟨p.1, 0, none⟩)) = nb.map (fun p => Value.pointer (some ⟨p.1, 0, none⟩)) := by
   rw [List.map_set]
   refine List.ext_getElem? fun j => ?_
   rw [List.getElem?_set]
   split
   ·rename_i hji
    subst hji
    simp [hi', hki]
   ·rfl
  rw [hm, List.length_set]
  exact Frm.ownsRow_mods h.row hM (fun y hy => nT y _ (owns_ty h.row hy) (by decide) (by decide))
 ·intro j h1 h2
  rw [List.length_set] at h1
  simp only [List.length_set] at h2
  by_cases hji : j = i
  ·subst hji
   simp only [List.getElem_set_self]
   exact hn
  ·rw [List.getElem_set_ne (fun e => hji e.symm)]
   simp only [List.getElem_set_ne (fun e => hji e.symm)]
   have hj := h.nod j h1 h2
   have hap := (hsep j h1 hji).1
   refine hj.mods hM (fun hy => ?_) (fun y hy hty => ?_)
   ·rcases hT _ hy with e | e
    ·exact hap.1 e
    ·exact (Ty.ne ⟨_, hj.blk⟩ (tp _ e) (by decide)) rfl
   ·rcases hT _ hty with e | e
    ·subst e
     exact (Ty.ne tk (owns_ty hj.pats hy) (by decide)) rfl
    ·exact hap.2 y hy e
 ·refine List.pairwise_iff_getElem.2 fun a b ha hb hab => ?_
  have ha' : a < nb.length := by simpa using ha
  have hb' : b < nb.length := by simpa using hb
  have hnew : ∀ j (hj : j < nb.length), j ≠ i → ApartN nb[j] (k, pv') := fun j hj hji => by
   refine ⟨(hsep j hj hji).1.1, fun y hy hy2 => ?_⟩
   rcases hp y hy2 with e | e
   ·exact (hsep j hj hji).1.2 y hy e
   ·have := (owns_ty (h.nod j hj (by rw [← h.len]; exact hj)).pats hy).lt
    omega
  have sym : ∀ {p q : NB}, ApartN p q → ApartN q p := fun hh => ⟨fun e => hh.1 e.symm, fun y hy hy2 => hh.2 y hy2 hy⟩
  by_cases hai : a = i
  ·subst hai
   rw [List.getElem_set_self, List.getElem_set_ne (by omega)]
   exact sym (hnew b hb' (by omega))
  ·rw [List.getElem_set_ne (fun e => hai e.symm)]
   by_cases hbi : b = i
   ·subst hbi
    rw [List.getElem_set_self]
    exact hnew a ha' hai
   ·rw [List.getElem_set_ne (fun e => hbi e.symm)]
    exact List.pairwise_iff_getElem.1 h.sep a b ha' hb' hab
 ·intro p hpm
  rcases List.mem_or_eq_of_mem_set hpm with hm | rfl
  ·exact ⟨hS _ (h.sb p hm).1, fun y hy => hS _ ((h.sb p hm).2 y hy)⟩
  ·have hkm : (k, pv) ∈ nb := List.mem_of_getElem? hk
   refine ⟨hS _ (h.sb _ hkm).1, fun y hy => ?_⟩
   rcases hp y hy with e | e
   ·exact hS _ ((h.sb _ hkm).2 y e)
   ·exact .inr e
end Vd
end Go.Proofs.YtcleakjjefmmbaaGreat

/- node.settle, Disk.Sync. -/
namespace Go.Proofs.YtcleakjjefmmbaaGreat
open Go.RowKit
namespace Vd
open Go.Maps

def settleN (x : Nod) : Nod := { x with sure := x.seen, pats := [] }
theorem settle_any (w : World) {k : Nat} {pv : Value} {x : Nod} (h : NodB w (k, pv) x) : Calls Tryz.prog 68 #[.pointer (some ⟨k, 0, none⟩)] w fun e w' => e = .returned (.tuple #[]) ∧ NodB w' (k, .slice none 0 0) (settleN x) ∧ Mods (· = k) w w' := by
 have HB := Lib.hid h.blk
 have c0 : w.cell? ⟨k, 0, none⟩ = some (.string (bstr x.seen)) := by rw [h.blk.cell]; rfl
 have c1 : w.cell? ⟨k, 1, none⟩ = some (.string (bstr x.sure)) := by rw [h.blk.cell]; rfl
 have c2 : w.cell? ⟨k, 2, none⟩ = some pv := by rw [h.blk.cell]; rfl
 have z1 : w.frozen? ⟨k, 1, none⟩ = false := h.blk.frozen _
 have z2 : w.frozen? ⟨k, 2, none⟩ = false := h.blk.frozen _
 clear h
 go_enter Tryz.func68, Tryz.ntmps68
 go_wp2_with fail
 go_end0
 have hM : Mods (· = k) w ((w.setCell ⟨k, 1, none⟩ (.string (bstr x.seen))).setCell ⟨k, 2, none⟩ (.slice none 0 0)) := ((Mods.refl (· = k) w).setCell (p := ⟨k, 1, none⟩) (fun _ => rfl) _).setCell (p := ⟨k, 2, none⟩) (fun _ => rfl) _
 exact ⟨rfl, ⟨(HB.out.set_ 1 _).set_ 2 _, World.ownsRow_nil _ _ _ 2⟩, hM⟩
theorem fit_settle {d : Dsk} (h : Fit d) {i : Nat} (hi : i < d.nodes.length) : Fit { d with nodes := d.nodes.set i (settleN d.nodes[i]) } := by
 have hm : ∀ x ∈ d.nodes.set i (settleN d.nodes[i]), x ∈ d.nodes ∨ x = settleN d.nodes[i] := fun x hx => by
  rcases List.mem_or_eq_of_mem_set hx with hh | hh
  ·exact .inl hh
  ·exact .inr hh
 have hb : bytesN (d.nodes.set i (settleN d.nodes[i])) d.seen = bytesN d.nodes d.seen := by
  unfold bytesN
  congr 1
  refine List.map_congr_left fun p _ => ?_
  rw [List.getElem?_set]
  split
  ·rename_i hip
   subst hip
   simp [hi, settleN]
  ·rfl
 refine { h with is := fun p hp => by simpa using h.is p hp, iu := fun p hp => by simpa using h.iu p hp, im := fun m hm => by simpa using h.im m hm, ns := fun x hx => ?_, ps := fun x hx p hp => ?_, fr := by rw [hb]; exact h.fr }
 ·rcases hm x hx with hh | rfl
  ·exact h.ns x hh
  ·have := h.ns _ (List.getElem_mem hi)
   exact ⟨this.1, this.1⟩
 ·rcases hm x hx with hh | rfl
  ·exact h.ps x hh p hp
  ·simp [settleN] at hp
def syncD (d : Dsk) (x : Str) : Dsk × Int :=
 if (touchD d x).2.2 ≠ 0 then ((touchD d x).1, (touchD d x).2.2)
 else ({ (touchD d x).1 with nodes := (touchD d x).1.nodes.set (touchD d x).2.1 (settleN ((touchD d x).1.nodes.getD (touchD d x).2.1 ⟨[], [], [], false⟩)) }, 0)
theorem touch_in {d : Dsk} (hf : Fit d) (ha : AscN d.seen) {x : Str} (h : (touchD d x).2.2 = 0) : (touchD d x).2.1 < (touchD d x).1.nodes.length ∧ look d.seen x = some (touchD d x).2.1 := by
 obtain ⟨-, hn, -⟩ := changeD_seen d
 unfold touchD at h ⊢
 split at h
 ·rename_i h1; exact absurd h h1
 ·rename_i h1
  rw [if_neg h1]
  simp only at h ⊢
  unfold findE at h
  cases hl : look d.seen x with
  |none => rw [hl] at h; simp at h
  |some i =>
   rw [hn]
   exact ⟨hf.is _ ((look_mem ha).1 hl), rfl⟩
set_option maxRecDepth 100000 in
set_option maxHeartbeats 1000000 in
theorem sync_any (w : World) {S : Nat → Prop} {g : Nat} {d : Dsk} (h : DiskAt w S g d) (hn : -1 ≤ d.count ∧ d.count ≤ 9000000000000000000) (x : Str) (hx : x.length ≤ maxLen) : Calls Tryz.prog 190 #[.pointer (some ⟨g, 0, none⟩), .string (bstr x)] w fun e w' => DskDid w (More S w w') g (syncD d x) e w' := by
 have HT := Lib.hid (touch_any w h hn x hx)
 have HIN : Hid ((touchD d x).2.2 = 0 → (touchD d x).2.1 < (touchD d x).1.nodes.length) := Lib.hid (fun hh => by
  obtain ⟨b1, b2, nv, mv, nb, h⟩ := h
  exact (touch_in h.fit h.seen.asc hh).1)
 have HX0 : Hid (syncD d x = if (touchD d x).2.2 ≠ 0 then ((touchD d x).1, (touchD d x).2.2)
  else ({ (touchD d x).1 with nodes := (touchD d x).1.nodes.set (touchD d x).2.1 (settleN ((touchD d x).1.nodes.getD (touchD d x).2.1 ⟨[], [], [], false⟩)) }, 0)) := Lib.hid rfl
 clear h
 unfold DskDid
 unfold TouchDid at HT
 generalize touchD d x = td at *
 obtain ⟨d1, i, er⟩ := td
 go_enter Tryz.func190, Tryz.ntmps190
 go_wp2_with fail
 refine HT.out.mono ?_
 rintro e w1 ⟨rfl, hd, hm⟩
 have HD := Lib.hid (show DiskAt w1 S g d1 from hd)
 have HM := Lib.hid hm
 clear hd hm HT
 by_cases he : er = 0
 ·subst he
  have hin : i < d1.nodes.length := HIN.out rfl
  have HX : Hid (syncD d x = ({ d1 with nodes := d1.nodes.set i (settleN d1.nodes[i]) }, 0)) := Lib.hid ((HX0.out.trans (if_neg (by simp))).trans (by
   have : d1.nodes.getD i ⟨[], [], [], false⟩ = d1.nodes[i] := by simp [List.getD_eq_getElem?_getD, List.getElem?_eq_getElem hin]
   rw [this]))
  obtain ⟨b1, b2, nv, mv, nb, hd⟩ := HD.out
  obtain ⟨gn, c, k, pv, rfl, hnb, n0, hnd⟩ := hd.nodeAt hin
  obtain ⟨-, c1, -⟩ := hd.cells
  have HDI := Lib.hid hd
  have HNB := Lib.hid hnb
  have HSE := Lib.hid (settle_any w1 hnd)
  clear hd hnb hnd HX0 HIN
  go_wp2_with fail
  refine HSE.out.mono ?_
  rintro e w2 ⟨rfl, hn2, hm2⟩
  have HR := Lib.hid (HDI.out.node hin HNB.out hm2 (fun y hy => .inl hy) hn2 (fun y hy => by simp [Value.ownBlock] at hy) (fit_settle HDI.out.fit hin))
  have HM2 := Lib.hid (HM.out.trans hm2 (fun y hy _ => by
   subst hy
   exact (HDI.out.sb _ (List.mem_of_getElem? HNB.out)).1))
  have HSZ := Lib.hid HM.out.size
  have HSZ2 := Lib.hid hm2.size
  clear hn2 hm2 HSE
  go_wp2_with fail
  go_ret
  refine ⟨(congrArg (fun r : Dsk × Int => Ending.returned (Value.int .i64 r.2)) HX.out).symm, ?_, HM2.out.mono (fun y hy => .inl hy)⟩
  rw [HX.out]
  exact DiskAt.wide ⟨_, _, _, _, _, HR.out⟩ (fun y hy => hy.imp id (fun hh => ⟨Nat.le_trans HSZ.out hh.1, hh.2⟩))
 ·have HX := Lib.hid (HX0.out.trans (if_pos he))
  have he' : (er != 0) = true := by simp [he]
  clear he
  go_wp2_with fail
  go_ret
  exact ⟨(congrArg (fun r : Dsk × Int => Ending.returned (Value.int .i64 r.2)) HX.out).symm, by rw [HX.out]; exact HD.out.wide (fun y hy => .inl hy), HM.out.mono (fun y hy => .inl hy)⟩
end Vd
end Go.Proofs.YtcleakjjefmmbaaGreat

/- A move is noted and given: turn. -/
namespace Go.Proofs.YtcleakjjefmmbaaGreat
open Go.RowKit
namespace Vd
open Go.Maps
theorem mvok : ElemOkS Tryz.prog 87 152 3 32 := elemOkS (z := .agg #[.int .i64 0, .string (bstr []), .bool false]) Tryz.underlying87 (by kernel_rfl) rfl
theorem step_appF {P : Program} {w : World} {ops : Array Oper} {o : Oper} {a : Act} {K : Act → World → Prop} {Q : Exit → Act → World → Prop} {E : Prop} {t e : TypeId} {size bytes base : Nat} (he : ElemOkS P t e size bytes) (hsz : 0 < size) (hgd : o.guard = none) (s x : Operand)
  (ho : o.op = .call { callee := .builtin .append, args := #[s, x], argTypes := #[t, t] })
  (v : Value) (n m c : Nat) (ad : Addr) (xs news : List Value) (hs : a.eval s = v) (hx : a.eval x = .slice (some ad) m c) (hown : w.ownsRow base e size v n xs) (hl : news.length = m * size) (hn : ∀ j u, news[j]? = some u → w.cell? (ad.add j) = some u) (h1 : ∀ u ∈ news, u.oneCell' = true)
  (hb : (n + m) * bytes ≤ 70368744177664) (hbytes : 0 < bytes) (hbase : base ≤ w.heap.size)
  (h : ∀ v' w', w'.ownsRow base e size v' (n + m) (xs ++ news) → w.grownBy w' v.ownBlock → (∀ x, v'.ownBlock = some x → v.ownBlock = some x ∨ w.heap.size ≤ x) → K (a.put o.dst v') w') :
  if Region.wanted o (yielded ops a.tmps) = true then Oper.wp P o a w K Q else E := by
 have hw : Region.wanted o (yielded ops a.tmps) = true := by simp [Region.wanted, hgd]
 rw [if_pos hw]
 have h63 : n + m ≤ 70368744177664 := Nat.le_trans (Nat.le_mul_of_pos_right _ hbytes) hb
 have hml : n + m ≤ maxLen := by unfold maxLen; omega
 obtain ⟨v', w', hr, h2, h3, h4⟩ := run_app (P := P) w o.type he hsz v n xs hown ad m c news hl hn h1 hml (by omega) hbase
 unfold Oper.wp execOp
 simp only [ho, resolve, invoke, builtin, Sem.run_bind, Sem.run_pure, Result.andThen_ok, List.map_toArray, List.map_cons, List.map_nil, hs, hx, hr]
 exact h v' w' h2 h3 h4
def turnD (d : Dsk) (m : Mv) : Dsk := { d with moves := d.moves ++ [m], seen := giveN d.seen m }
/-- the moves and the names seen are anew -/
theorem DiskIn.moved {w w' : World} {S : Nat → Prop} {g b1 b2 : Nat} {nv mv : Value} {nb : List NB} {d : Dsk} (h : DiskIn w S g b1 b2 nv mv nb d) {T : Nat → Prop} (hM : Mods T w w') (hT : ∀ y, T y → y = g ∨ mv.ownBlock = some y ∨ y = b1) {mv' : Value} {m : Mv}
  (hB : Blk w' g 89 (diskA (turnD d m) nv b1 b2 mv')) (hs : NamesAt w' b1 (giveN d.seen m).length (giveN d.seen m)) (hm : w'.ownsRow 0 152 3 mv' (d.moves.length + 1) ((d.moves ++ [m]).flatMap mvC))
  (hp : ∀ y, mv'.ownBlock = some y → mv.ownBlock = some y ∨ (w.heap.size ≤ y ∧ y < w'.heap.size)) (hf : Fit (turnD d m)) : DiskIn w' (More S w w') g b1 b2 nv mv' nb (turnD d m) := by
 have tg : Ty w g 89 := ⟨_, h.blk⟩
 have tT : ∀ y, T y → y = b1 ∨ Ty w y 89 ∨ Ty w y 152 := fun y hy => by
  rcases hT y hy with rfl | e | e
  ·exact .inr (.inl tg)
  ·exact .inr (.inr (owns_ty h.mvs e))
  ·exact .inl e
 have out : ∀ {y : Nat} {t : TypeId}, Ty w y t → 89 ≠ t → 152 ≠ t → ¬ T y := fun hy n1 n2 ht => by
  rcases tT _ ht with e | e | e
  ·exact names_ty h.seen hy e.symm
  ·exact Ty.ne e hy n1 rfl
  ·exact Ty.ne e hy n2 rfl
 have h2 : ¬ T b2 := fun ht => by
  rcases tT _ ht with e | e | e
  ·exact h.d12 e.symm
  ·exact names_ty h.sure e rfl
  ·exact names_ty h.sure e rfl
 exact
  {blk := hB
   row := Frm.ownsRow_mods h.row hM (fun y hy => out (owns_ty h.row hy) (by decide) (by decide))
   len := h.len
   nod := fun i h1 h2 => (h.nod i h1 h2).mods hM (out ⟨_, (h.nod i h1 h2).blk⟩ (by decide) (by decide)) (fun y hy => out (owns_ty (h.nod i h1 h2).pats hy) (by decide) (by decide))
   sep := h.sep
   seen := hs
   sure := h.sure.mods hM h2
   mvs := by simpa [turnD] using hm
   d12 := h.d12
   sg := .inl h.sg
   s1 := .inl h.s1
   s2 := .inl h.s2
   sn := fun y hy => .inl (h.sn y hy)
   sm := fun y hy => (hp y hy).imp (h.sm y) id
   sb := fun p hp => ⟨.inl (h.sb p hp).1, fun y hy => .inl ((h.sb p hp).2 y hy)⟩
   fit := hf }
set_option maxRecDepth 100000 in
set_option maxHeartbeats 2000000 in
theorem turn_any (w : World) {S : Nat → Prop} {g : Nat} {d : Dsk} (h : DiskAt w S g d) (m : Mv) (hm : m.name.length ≤ 32) (hml : d.moves.length ≤ 1000000000) (hf : Fit (turnD d m)) : Calls Tryz.prog 155 #[.pointer (some ⟨g, 0, none⟩), .agg #[.int .i64 (m.node : Int), .string (bstr m.name), .bool m.made]] w fun e w' => e = .returned (.tuple #[]) ∧ DiskAt w' (More S w w') g (turnD d m) ∧ Mods S w w' := by
 obtain ⟨b1, b2, nv, mv, nb, h⟩ := h
 have HD := Lib.hid h
 have HG := Lib.hid h.blk
 have HV := Lib.hid h.mvs
 obtain ⟨-, -, -, -, c4, -⟩ := h.cells
 have hfz : w.frozen? ⟨g, 4, none⟩ = false := h.blk.frozen 4
 obtain ⟨po, cap, rfl, -, -⟩ := Frm.ownsRow_form h.mvs
 have HN1 := Lib.hid h.ng.2.2.2.1
 clear h
 go_enter Tryz.func155, Tryz.ntmps155
 go_upto_region 1 with fail
 generalize hW : World.alloc w _ = w1
 have HK1 := Lib.hid (show Keeps w w1 from by rw [← hW]; exact (Keeps.refl _).alloc _)
 have HM := Lib.hid (show Blk w1 w.heap.size 152 #[.int .i64 (m.node : Int), .string (bstr m.name), .bool m.made] from by rw [← hW]; exact Blk.new _ _ _ rfl)
 have HG1 := Lib.hid (HG.out.keeps HK1.out)
 have HV1 := Lib.hid (Frm.ownsRow_keeps HV.out HK1.out)
 have c4' : w1.cell? ⟨g, 4, none⟩ = some (Value.slice po d.moves.length cap) := by rw [HG1.out.cell]; rfl
 clear hW c4 hfz
 obtain ⟨q, hq⟩ : ∃ q, q = w.heap.size := ⟨_, rfl⟩
 rw [← hq] at HM ⊢
 have HQ := Lib.hid hq
 clear hq
 have HNQ : Hid ((Value.slice po d.moves.length cap).ownBlock ≠ some q) := Lib.hid (fun e => by
  have := (owns_ty HV.out e).lt
  have := HQ.out
  omega)
 have hm0 : w1.cell? ⟨q, 0, none⟩ = some (.int .i64 (m.node : Int)) := by rw [HM.out.cell]; rfl
 have hm1 : w1.cell? ⟨q, 1, none⟩ = some (.string (bstr m.name)) := by rw [HM.out.cell]; rfl
 have hm2 : w1.cell? ⟨q, 2, none⟩ = some (.bool m.made) := by rw [HM.out.cell]; rfl
 go_cut [] (fun wx => ∃ mv2, Hid (Blk wx g 89 (diskA d nv b1 b2 mv2) ∧ wx.ownsRow 0 152 3 mv2 (d.moves.length + 1) ((d.moves ++ [m]).flatMap mvC) ∧ Mods (fun y => y = g ∨ (Value.slice po d.moves.length cap).ownBlock = some y) w wx ∧ Blk wx q 152 #[.int .i64 (m.node : Int), .string (bstr m.name), .bool m.made] ∧ ∀ y, mv2.ownBlock = some y → (Value.slice po d.moves.length cap).ownBlock = some y ∨ (w.heap.size ≤ y ∧ y < wx.heap.size)))
 case first =>
  have HNG := Lib.hid (show q ≠ g from fun e => by have h1 := HM.out; have h2 := HG1.out; unfold Blk at h1 h2; rw [e, h2] at h1; simp at h1)
  have HS1 := Lib.hid HK1.out.size
  have HX := Lib.hid HG1.out.drew
  have HR := Lib.hid (Frm.ownsRow_keeps HV1.out (Keeps.refl w1).drew)
  have HMq := Lib.hid HM.out.drew
  clear c4' hm0 hm1 hm2
  refine wp_region_noPanic ?_
  refine wp_region_held_drew (S := fun w' => Mods (fun y => y = g ∨ (Value.slice po d.moves.length cap).ownBlock = some y) w1 w') (by kernel_rfl) ((Mods.refl (fun y => y = g ∨ (Value.slice po d.moves.length cap).ownBlock = some y) w1).drew) (fun _ => ?_)
  have hHeld : Mods (fun y => y = g ∨ (Value.slice po d.moves.length cap).ownBlock = some y) w1 (w1).drew := (Mods.refl (fun y => y = g ∨ (Value.slice po d.moves.length cap).ownBlock = some y) w1).drew
  generalize World.drew w1 = xs at *
  refine tq 0 4 ?_
  refine tq 1 5 ?_
  refine tq 2 6 ?_
  refine tq 3 7 ?_
  refine tq 5 9 ?_ (hy := fun w' hSw => by
   have hSw : Mods (fun y => y = g ∨ (Value.slice po d.moves.length cap).ownBlock = some y) w1 w' := hSw
   have hBq := HM.out.mods hSw (fun hh => hh.elim (fun e => HNG.out e) HNQ.out)
   have hx0 : World.cell? w' ⟨q, 0, none⟩ = some (.int .i64 (m.node : Int)) := by rw [hBq.cell]; rfl
   have hx1 : World.cell? w' ⟨q, 1, none⟩ = some (.string (bstr m.name)) := by rw [hBq.cell]; rfl
   have hx2 : World.cell? w' ⟨q, 2, none⟩ = some (.bool m.made) := by rw [hBq.cell]; rfl
   clear hSw
   go_simp
   try with_reducible rfl)
  refine wpAnyH_ready (rs := [4, 6]) (by kernel_rfl) (by simp) ?_
  refine AllReadyH.cons (o := _) rfl (fun K hK => ?_) ?_
  ·have hx : World.cell? xs ⟨g, 4, none⟩ = some (Value.slice po d.moves.length cap) := by rw [HX.out.cell]; rfl
   go_simp
   clear hx
   have hb := hHeld
   refine bkm hK hb ?_
   clear hK K hHeld
   have hHeld : Mods (fun y => y = g ∨ (Value.slice po d.moves.length cap).ownBlock = some y) w1 xs := hb
   clear hb
   refine rd1 6 (fun K hK => ?_)
   go_simp
   obtain ⟨b6, hb6⟩ : ∃ z, z = (World.heap xs).size := ⟨_, rfl⟩
   have HB6 : Hid (Blk (World.alloc xs (.cells #[.int .i64 (m.node : Int), .string (bstr m.name), .bool m.made] 152)) b6 152 #[.int .i64 (m.node : Int), .string (bstr m.name), .bool m.made]) := Lib.hid (Blk.new _ _ _ hb6)
   have HX := Lib.hid (HX.out.alloc (.cells #[.int .i64 (m.node : Int), .string (bstr m.name), .bool m.made] 152))
   have HR := Lib.hid (Frm.ownsRow_keeps HR.out ((Keeps.refl _).alloc (.cells #[.int .i64 (m.node : Int), .string (bstr m.name), .bool m.made] 152)))
   have HMq := Lib.hid (HMq.out.alloc (.cells #[.int .i64 (m.node : Int), .string (bstr m.name), .bool m.made] 152))
   have hb := hHeld.alloc (.cells #[.int .i64 (m.node : Int), .string (bstr m.name), .bool m.made] 152)
   have HBB := Lib.hid hb6
   clear hb6
   generalize World.alloc xs (.cells #[.int .i64 (m.node : Int), .string (bstr m.name), .bool m.made] 152) = x6 at *
   refine bkm hK hb ?_
   clear hK K hHeld
   have hHeld : Mods (fun y => y = g ∨ (Value.slice po d.moves.length cap).ownBlock = some y) w1 x6 := hb
   clear hb
   refine rd1 7 (fun K hK => ?_)
   refine step_appF (base := 0) mvok (by decide) rfl _ _ rfl (Value.slice po d.moves.length cap) d.moves.length 1 1 ⟨b6, 0, none⟩ (d.moves.flatMap mvC) [.int .i64 (m.node : Int), .string (bstr m.name), .bool m.made] rfl (congrArg (fun g => Value.slice (some ⟨g, 0, none⟩) 1 1) HBB.out.symm) HR.out rfl (fun j y hy => by rw [Go.WideShapes.add_plain, HB6.out.cell, Nat.zero_add]; simpa using hy) (by simp [Value.oneCell']) (by omega) (by decide) (Nat.zero_le _) ?_
   intro v7 x7 ho7 hg7 hf7
   have HZ7 := Lib.hid hHeld.size
   obtain ⟨p7, c7, rfl, -, -⟩ := Frm.ownsRow_form ho7
   have H7 := Lib.hid ho7
   have HF7 := Lib.hid (fun y hy => (hf7 y hy).imp id (fun hh => Nat.le_trans HZ7.out hh))
   have HX := Lib.hid (HX.out.grown hg7 HN1.out)
   have HMq := Lib.hid (HMq.out.grown hg7 HNQ.out)
   have hb := hHeld.grown hg7 (fun k hk _ => .inr hk)
   clear ho7 hg7 hf7 HB6
   show K (Act.put _ (some 11) _) x7
   refine bkm hK hb ?_
   clear hK K hHeld
   have hHeld : Mods (fun y => y = g ∨ (Value.slice po d.moves.length cap).ownBlock = some y) w1 x7 := hb
   clear hb
   refine tq 8 12 ?_
   refine tq 9 13 ?_
   refine rd1 10 (fun K hK => ?_)
   have hx : World.cell? x7 ⟨g, 4, none⟩ = some (Value.slice po d.moves.length cap) := by rw [HX.out.cell]; rfl
   have hz : World.frozen? x7 ⟨g, 4, none⟩ = false := HX.out.frozen 4
   go_simp
   have HX3 := Lib.hid (HX.out.set_ 4 (.slice p7 (d.moves.length + 1) c7))
   have H7s := Lib.hid (Frm.ownsRow_mods (S := fun x => x = g) H7.out ((Mods.refl (fun x => x = g) _).setCell (p := ⟨g, 4, none⟩) (fun _ => rfl) (.slice p7 (d.moves.length + 1) c7)) (fun x hx e => Frm.ownsRow_ne H7.out HX.out (by decide) (by rw [hx, e])))
   have HMq := Lib.hid (HMq.out.far HNG.out (p := ⟨g, 4, none⟩) (.slice p7 (d.moves.length + 1) c7))
   have hb := hHeld.setCell (p := ⟨g, 4, none⟩) (fun _ => .inl rfl) (.slice p7 (d.moves.length + 1) c7)
   clear hx hz HX H7
   generalize World.setCell x7 ⟨g, 4, none⟩ (.slice p7 (d.moves.length + 1) c7) = xF at *
   refine bkm hK hb ?_
   clear hK K hHeld
   have hHeld : Mods (fun y => y = g ∨ (Value.slice po d.moves.length cap).ownBlock = some y) w1 xF := hb
   clear hb
   refine wpAnyH_done (by kernel_rfl) ?_ _
   refine NoPanic.normal ?_
   go_wp2_with fail
   go_meet
   refine ⟨.slice p7 (d.moves.length + 1) c7, Lib.hid ⟨by simpa [diskA] using HX3.out, by simpa [mvC] using H7s.out, (Mods.of_keeps HK1.out).trans hHeld (fun y hy _ => hy), HMq.out, fun y hy => (HF7.out y hy).imp id (fun hh => ⟨Nat.le_trans HS1.out hh, (owns_ty H7s.out hy).lt⟩)⟩⟩
  refine AllReadyH.cons (o := _) rfl (fun K hK => ?_) ?_
  ·go_simp
   obtain ⟨b6, hb6⟩ : ∃ z, z = (World.heap xs).size := ⟨_, rfl⟩
   have HB6 : Hid (Blk (World.alloc xs (.cells #[.int .i64 (m.node : Int), .string (bstr m.name), .bool m.made] 152)) b6 152 #[.int .i64 (m.node : Int), .string (bstr m.name), .bool m.made]) := Lib.hid (Blk.new _ _ _ hb6)
   have HX := Lib.hid (HX.out.alloc (.cells #[.int .i64 (m.node : Int), .string (bstr m.name), .bool m.made] 152))
   have HR := Lib.hid (Frm.ownsRow_keeps HR.out ((Keeps.refl _).alloc (.cells #[.int .i64 (m.node : Int), .string (bstr m.name), .bool m.made] 152)))
   have HMq := Lib.hid (HMq.out.alloc (.cells #[.int .i64 (m.node : Int), .string (bstr m.name), .bool m.made] 152))
   have hb := hHeld.alloc (.cells #[.int .i64 (m.node : Int), .string (bstr m.name), .bool m.made] 152)
   have HBB := Lib.hid hb6
   clear hb6
   generalize World.alloc xs (.cells #[.int .i64 (m.node : Int), .string (bstr m.name), .bool m.made] 152) = x6 at *
   refine bkm hK hb ?_
   clear hK K hHeld
   have hHeld : Mods (fun y => y = g ∨ (Value.slice po d.moves.length cap).ownBlock = some y) w1 x6 := hb
   clear hb
   refine rd1 4 (fun K hK => ?_)
   have hx : World.cell? x6 ⟨g, 4, none⟩ = some (Value.slice po d.moves.length cap) := by rw [HX.out.cell]; rfl
   go_simp
   clear hx
   have hb := hHeld
   refine bkm hK hb ?_
   clear hK K hHeld
   have hHeld : Mods (fun y => y = g ∨ (Value.slice po d.moves.length cap).ownBlock = some y) w1 x6 := hb
   clear hb
   refine rd1 7 (fun K hK => ?_)
   refine step_appF (base := 0) mvok (by decide) rfl _ _ rfl (Value.slice po d.moves.length cap) d.moves.length 1 1 ⟨b6, 0, none⟩ (d.moves.flatMap mvC) [.int .i64 (m.node : Int), .string (bstr m.name), .bool m.made] rfl (congrArg (fun g => Value.slice (some ⟨g, 0, none⟩) 1 1) HBB.out.symm) HR.out rfl (fun j y hy => by rw [Go.WideShapes.add_plain, HB6.out.cell, Nat.zero_add]; simpa using hy) (by simp [Value.oneCell']) (by omega) (by decide) (Nat.zero_le _) ?_
   intro v7 x7 ho7 hg7 hf7
   have HZ7 := Lib.hid hHeld.size
   obtain ⟨p7, c7, rfl, -, -⟩ := Frm.ownsRow_form ho7
   have H7 := Lib.hid ho7
   have HF7 := Lib.hid (fun y hy => (hf7 y hy).imp id (fun hh => Nat.le_trans HZ7.out hh))
   have HX := Lib.hid (HX.out.grown hg7 HN1.out)
   have HMq := Lib.hid (HMq.out.grown hg7 HNQ.out)
   have hb := hHeld.grown hg7 (fun k hk _ => .inr hk)
   clear ho7 hg7 hf7 HB6
   show K (Act.put _ (some 11) _) x7
   refine bkm hK hb ?_
   clear hK K hHeld
   have hHeld : Mods (fun y => y = g ∨ (Value.slice po d.moves.length cap).ownBlock = some y) w1 x7 := hb
   clear hb
   refine tq 8 12 ?_
   refine tq 9 13 ?_
   refine rd1 10 (fun K hK => ?_)
   have hx : World.cell? x7 ⟨g, 4, none⟩ = some (Value.slice po d.moves.length cap) := by rw [HX.out.cell]; rfl
   have hz : World.frozen? x7 ⟨g, 4, none⟩ = false := HX.out.frozen 4
   go_simp
   have HX3 := Lib.hid (HX.out.set_ 4 (.slice p7 (d.moves.length + 1) c7))
   have H7s := Lib.hid (Frm.ownsRow_mods (S := fun x => x = g) H7.out ((Mods.refl (fun x => x = g) _).setCell (p := ⟨g, 4, none⟩) (fun _ => rfl) (.slice p7 (d.moves.length + 1) c7)) (fun x hx e => Frm.ownsRow_ne H7.out HX.out (by decide) (by rw [hx, e])))
   have HMq := Lib.hid (HMq.out.far HNG.out (p := ⟨g, 4, none⟩) (.slice p7 (d.moves.length + 1) c7))
   have hb := hHeld.setCell (p := ⟨g, 4, none⟩) (fun _ => .inl rfl) (.slice p7 (d.moves.length + 1) c7)
   clear hx hz HX H7
   generalize World.setCell x7 ⟨g, 4, none⟩ (.slice p7 (d.moves.length + 1) c7) = xF at *
   refine bkm hK hb ?_
   clear hK K hHeld
   have hHeld : Mods (fun y => y = g ∨ (Value.slice po d.moves.length cap).ownBlock = some y) w1 xF := hb
   clear hb
   refine wpAnyH_done (by kernel_rfl) ?_ _
   refine NoPanic.normal ?_
   go_wp2_with fail
   go_meet
   refine ⟨.slice p7 (d.moves.length + 1) c7, Lib.hid ⟨by simpa [diskA] using HX3.out, by simpa [mvC] using H7s.out, (Mods.of_keeps HK1.out).trans hHeld (fun y hy _ => hy), HMq.out, fun y hy => (HF7.out y hy).imp id (fun hh => ⟨Nat.le_trans HS1.out hh, (owns_ty H7s.out hy).lt⟩)⟩⟩
  exact AllReadyH.nil
 case rest =>
 obtain ⟨mv2, HC⟩ := hcut
 obtain ⟨w2, rfl⟩ : ∃ z : World, z = wc := ⟨_, rfl⟩
 have hdb := HD.out
 have HNG := Lib.hid (show b1 ≠ g from hdb.ng.1)
 have HNQ1 := Lib.hid (show b1 ≠ q from fun e => by have := hdb.seen.lt; have := HQ.out; omega)
 have HNM0 := Lib.hid (hdb.seen.mods HC.out.2.2.1 (fun hh => hh.elim HNG.out (fun e => names_ty hdb.seen (owns_ty hdb.mvs e) rfl)))
 have HNM := Lib.hid (HNM0.out.keeps (Keeps.refl w2).drew)
 have HLS := Lib.hid hdb.fit.s1
 clear hdb
 have hm3 : m.name.length ≤ maxLen := by unfold maxLen; omega
 have hls : d.seen.length < 1000000 := by have := HLS.out; omega
 clear c4' hm0 hm1 hm2
 go_wp2_with fail
 refine wp_region_noPanic ?_
 refine wp_region_held_drew (S := fun w' => Mods (· = b1) w2 w') (by kernel_rfl) ((Mods.refl (· = b1) w2).drew) (fun _ => ?_)
 have hHeld : Mods (· = b1) w2 (w2).drew := (Mods.refl (· = b1) w2).drew
 generalize World.drew w2 = xs at *
 refine tq 0 14 ?_
 refine tq 1 15 ?_
 refine tq 2 16 ?_
 refine tq 3 17 ?_ (hy := fun w' hSw => by
  have hSw : Mods (· = b1) w2 w' := hSw
  have hBq := HC.out.1.mods hSw (fun e => HNG.out e.symm)
  have hx0 : World.cell? w' ⟨g, 2, none⟩ = some (.map (some b1)) := by rw [hBq.cell]; rfl
  clear hSw
  go_simp
  try with_reducible rfl)
 refine tq 4 18 ?_ (hy := fun w' hSw => by
  have hSw : Mods (· = b1) w2 w' := hSw
  have hBq := HC.out.2.2.2.1.mods hSw (fun e => HNQ1.out e.symm)
  have hx0 : World.cell? w' ⟨q, 0, none⟩ = some (.int .i64 (m.node : Int)) := by rw [hBq.cell]; rfl
  have hx1 : World.cell? w' ⟨q, 1, none⟩ = some (.string (bstr m.name)) := by rw [hBq.cell]; rfl
  have hx2 : World.cell? w' ⟨q, 2, none⟩ = some (.bool m.made) := by rw [hBq.cell]; rfl
  clear hSw
  go_simp
  try with_reducible rfl)
 refine rd1 5 (fun K hK => ?_)
 go_simp
 refine (give_any _ HNM.out hls m hm3).mono ?_
 rintro e yA ⟨rfl, hn1, hM1⟩
 have hb := hHeld.trans hM1 (fun x hx _ => hx)
 have HN := Lib.hid hn1
 clear hn1 hM1
 go_wp2_with fail
 refine bkm hK hb ?_
 clear hK K hHeld
 have hHeld : Mods (· = b1) w2 yA := hb
 clear hb
 refine wpAnyH_done (by kernel_rfl) ?_ _
 refine NoPanic.normal ?_
 go_wp2_with fail
 go_end0
 have hMA := (HC.out.2.2.1.mono (fun y hy => (show (y = g ∨ (Value.slice po d.moves.length cap).ownBlock = some y) ∨ y = b1 from .inl hy))).trans hHeld (fun y hy _ => .inr hy)
 refine ⟨rfl, ⟨_, _, _, _, _, HD.out.moved hMA (fun y hy => hy.elim (fun h => h.elim .inl (fun e => .inr (.inl e))) (fun e => .inr (.inr e))) (HC.out.1.mods hHeld (fun e => HNG.out e.symm)) HN.out.tight (Frm.ownsRow_mods HC.out.2.1 hHeld (fun y hy e => names_ty HNM0.out (owns_ty HC.out.2.1 hy) e.symm)) (fun y hy => (HC.out.2.2.2.2 y hy).imp id (fun hh => ⟨hh.1, Nat.lt_of_lt_of_le hh.2 hHeld.size⟩)) hf⟩, hMA.mono (fun y hy => ?_)⟩
 rcases hy with (rfl | hy) | rfl
 ·exact HD.out.sg
 ·exact HD.out.sm _ hy
 ·exact HD.out.s1
end Vd
end Go.Proofs.YtcleakjjefmmbaaGreat

/- A new node. -/
namespace Go.Proofs.YtcleakjjefmmbaaGreat
open Go.RowKit
namespace Vd
open Go.Maps
def newN : Nod := ⟨[], [], [], true⟩
def bornD (d : Dsk) : Dsk := { d with nodes := d.nodes ++ [newN] }
theorem DiskIn.born {w w' : World} {S : Nat → Prop} {g b1 b2 : Nat} {nv mv : Value} {nb : List NB} {d : Dsk} (h : DiskIn w S g b1 b2 nv mv nb d) {T : Nat → Prop} (hM : Mods T w w') (hT : ∀ y, T y → y = g ∨ nv.ownBlock = some y) {nv' : Value} {k : Nat} (hk : w.heap.size ≤ k)
  (hB : Blk w' g 89 (diskA d nv' b1 b2 mv)) (hn : NodB w' (k, .slice none 0 0) newN) (hr : w'.ownsRow 0 92 1 nv' (nb.length + 1) ((nb ++ [(k, Value.slice none 0 0)]).map fun (p : NB) => Value.pointer (some ⟨p.1, 0, none⟩)))
  (hp : ∀ y, nv'.ownBlock = some y → nv.ownBlock = some y ∨ (w.heap.size ≤ y ∧ y < w'.heap.size)) (hf : Fit (bornD d)) : DiskIn w' (More S w w') g b1 b2 nv' mv (nb ++ [(k, Value.slice none 0 0)]) (bornD d) := by
 have tT : ∀ y, T y → Ty w y 89 ∨ Ty w y 92 := fun y hy => (hT y hy).imp (fun e => by subst e; exact ⟨_, h.blk⟩) (owns_ty h.row)
 have out : ∀ {y : Nat} {t : TypeId}, Ty w y t → 89 ≠ t → 92 ≠ t → ¬ T y := fun hy n1 n2 ht => by
  rcases tT _ ht with e | e
  ·exact Ty.ne e hy n1 rfl
  ·exact Ty.ne e hy n2 rfl
 have outm : ∀ {b n : Nat} {l : Nms}, NamesAt w b n l → ¬ T b := fun hb ht => by
  rcases tT _ ht with e | e
  ·exact names_ty hb e rfl
  ·exact names_ty hb e rfl
 have hkl : k < w'.heap.size := hn.blk.lt
 exact
  {blk := hB
   row := by simpa using hr
   len := by simp [bornD, h.len]
   nod := fun i h1 h2 => by
    by_cases hi : i < nb.length
    ·have hi2 : i < d.nodes.length := by rw [← h.len]; exact hi
     have hh := h.nod i hi hi2
     have e1 : (nb ++ [(k, Value.slice none 0 0)])[i] = nb[i] := List.getElem_append_left hi
     have e2 : (bornD d).nodes[i] = d.nodes[i] := List.getElem_append_left hi2
     rw [e1, e2]
     exact hh.mods hM (out ⟨_, hh.blk⟩ (by decide) (by decide)) (fun y hy => out (owns_ty hh.pats hy) (by decide) (by decide))
    ·have hi1 : i = nb.length := by simp at h1; omega
     subst hi1
     have e1 : (nb ++ [(k, Value.slice none 0 0)])[nb.length] = (k, Value.slice none 0 0) := by simp
     have e2 : (bornD d).nodes[nb.length] = newN := by simp [bornD, h.len]
     rw [e1, e2]
     exact hn
   sep := by
    refine List.pairwise_append.2 ⟨h.sep, by simp, fun p hp q hq => ?_⟩
    simp at hq
    subst hq
    refine ⟨fun e => ?_, fun y _ => by simp [Value.ownBlock]⟩
    obtain ⟨i, hi, rfl⟩ := List.mem_iff_getElem.1 hp
    have := (h.nod i hi (by rw [← h.len]; exact hi)).blk.lt
    have e' : nb[i].1 = k := e
    omega
   seen := h.seen.mods hM (outm h.seen)
   sure := h.sure.mods hM (outm h.sure)
   mvs := Frm.ownsRow_mods h.mvs hM (fun y hy => out (owns_ty h.mvs hy) (by decide) (by decide))
   d12 := h.d12
   sg := .inl h.sg
   s1 := .inl h.s1
   s2 := .inl h.s2
   sn := fun y hy => (hp y hy).imp (h.sn y) id
   sm := fun y hy => .inl (h.sm y hy)
   sb := fun p hp => by
    rcases List.mem_append.1 hp with hp | hp
    ·exact ⟨.inl (h.sb p hp).1, fun y hy => .inl ((h.sb p hp).2 y hy)⟩
    ·simp at hp
     subst hp
     exact ⟨.inr ⟨hk, hkl⟩, fun y hy => by simp [Value.ownBlock] at hy⟩
   fit := hf }
end Vd
end Go.Proofs.YtcleakjjefmmbaaGreat
