/- record.Scan; lists of what is found in memory. -/
import Derived.Test.YtklbemkafdccgaaGreatK33
import Derived.Test.YtklbemkafdccgaaGreatK10
import Derived.Test.YtklbemkafdccgaaGreatFrameScan
import Derived.Test.YtklbemkafdccgaaGreatK27
import Derived.Test.YtklbemkafdccgaaGreatK09
namespace Go.Proofs.YtklbemkafdccgaaGreat
open Go.RowKit
namespace Rcd
open Oct Frm

def fndC (x : Fnd × Value) : List Value := [.int .i64 x.1.at', .int .i64 x.1.len, .int .i64 x.1.rc.kind, .int .i64 x.1.rc.user, .int .i64 x.1.rc.seq, .int .i64 x.1.rc.next, .int .i64 x.1.rc.base, .int .i64 x.1.rc.uid, .int .i64 x.1.rc.time, .int .i64 x.1.rc.flags, .int .i64 x.1.rc.body, .int .i64 x.1.rc.size, .int .i64 x.1.rc.origin, x.2]
theorem fndC_len (x : Fnd × Value) : (fndC x).length = 14 := rfl
/-- a slice of what was found, of the call's own; the records' data new -/
structure FndsAt (w : World) (base : Nat) (v : Value) (l : List (Fnd × Value)) : Prop where
 own : w.ownsRow base 213 14 v l.length (l.flatMap fndC)
 pay : ∀ x ∈ l, Piece w base 5 x.2 (x.1.rc.data.map u8v)
section
variable {w w' : World} {base : Nat} {v : Value} {l : List (Fnd × Value)}
theorem FndsAt.nil (w : World) (base : Nat) : FndsAt w base (.slice none 0 0) [] := ⟨World.ownsRow_nil w base _ 14, by simp⟩
theorem FndsAt.keeps (h : FndsAt w base v l) (k : Keeps w w') : FndsAt w' base v l := ⟨ownsRow_keeps h.own k, fun x hx => (h.pay x hx).keeps k⟩
theorem FndsAt.lower {base' : Nat} (h : FndsAt w base v l) (hb : base' ≤ base) : FndsAt w base' v l := ⟨⟨h.own.1, h.own.2.imp id (fun ⟨g, cap, cur, hv, hg, r⟩ => ⟨g, cap, cur, hv, Nat.le_trans hb hg, r⟩)⟩, fun x hx => (h.pay x hx).lower hb⟩
theorem FndsAt.mods {S : Nat → Prop} (h : FndsAt w base v l) (k : Mods S w w') (hn : ∀ x, S x → ∀ cs fr, w.heap[x]? ≠ some (.cells cs 5 fr)) (hn' : ∀ x, S x → ∀ cs fr, w.heap[x]? ≠ some (.cells cs 213 fr)) : FndsAt w' base v l := by
 refine ⟨ownsRow_mods h.own k (fun x hx hs => ?_), fun x hx => (h.pay x hx).modsT k hn⟩
 rcases h.own.2 with ⟨rfl, _⟩ | ⟨g, cap, cur, rfl, hb, hgg, rest⟩
 ·simp [Value.ownBlock] at hx
 ·simp [Value.ownBlock] at hx
  subst hx
  exact hn' g hs _ _ hgg
theorem FndsAt.snoc {v' : Value} {f : Fnd} {pv : Value} (h : FndsAt w base v l) (hp : Piece w base 5 pv (f.rc.data.map u8v)) (ho : w'.ownsRow base 213 14 v' (l.length + 1) (l.flatMap fndC ++ fndC (f, pv))) (hg : w.grownBy w' v.ownBlock) : FndsAt w' base v' (l ++ [(f, pv)]) := by
 have hM : Mods (fun x => v.ownBlock = some x) w w' := (Mods.refl _ w).grown hg (fun k hk _ => hk)
 have hty := ownsRow_ty (e' := 5) h.own (by decide)
 refine ⟨by simpa using ho, ?_⟩
 intro x hx
 rcases List.mem_append.1 hx with hx | hx
 ·exact (h.pay x hx).modsT hM hty
 ·simp at hx
  subst hx
  exact hp.modsT hM hty
end
theorem framesGrown {w w' : World} {base base2 C2 n2 : Nat} {e2 : TypeId} {v v2 : Value} {l : List (Fr1 × Value)} {xs2 : List Value} (h : FramesAt w base v l) (h2 : w.ownsRow base2 e2 C2 v2 n2 xs2) (h3 : e2 ≠ 5) (h4 : e2 ≠ 238) (hg : w.grownBy w' v2.ownBlock) : FramesAt w' base v l :=
 h.mods ((Mods.refl (fun x => v2.ownBlock = some x) w).grown hg (fun k hk _ => hk)) (ownsRow_ty h2 h3) (ownsRow_ty h2 h4)
theorem fndok : ElemOkS Tryz.prog 209 213 14 128 := elemOkS (z := .agg #[.int .i64 0, .int .i64 0, .int .i64 0, .int .i64 0, .int .i64 0, .int .i64 0, .int .i64 0, .int .i64 0, .int .i64 0, .int .i64 0, .int .i64 0, .int .i64 0, .int .i64 0, .slice none 0 0]) Tryz.underlying209 (by kernel_rfl) rfl
def RecScanDid (W : World) (l : List UInt8) (e : Ending) (w' : World) : Prop :=
 ∃ v fl, e = .returned (.tuple #[v, .int .i64 ((l.length : Int) - lenL (scanR l).1)]) ∧ FndsAt w' W.heap.size v fl ∧ fl.map (·.1) = fndL (scanR l).1 ∧ Keeps W w'

set_option maxRecDepth 100000 in
set_option maxHeartbeats 4000000 in
theorem rcScan_any (v : Value) (l : List UInt8) (w : World) (hr : Row w v (l.map u8v)) (hl : l.length ≤ 549755813887) : Calls Tryz.prog 138 #[v] w (RecScanDid w l) := by
 obtain ⟨pv, cv, rfl, hc1, hc2⟩ := hr.formB
 have HSC := Lib.hid (scan_any (.slice pv l.length cv) l w hr (by omega))
 obtain ⟨hin, -⟩ := scanN_in l l.length 0 0 (Nat.zero_le _) (Nat.le_refl _)
 have HIN : Hid (∀ f ∈ (scanR l).1, 0 ≤ f.len ∧ f.len ≤ l.length ∧ f.pay.length ≤ l.length) := Lib.hid hin
 have HLT := Lib.hid (lenL_take l)
 have HCN : Hid ((scanR l).1.length ≤ l.length) := Lib.hid (scanN_count l l.length 0 0).1
 clear hr hin
 unfold RecScanDid
 generalize scanR l = x at *
 obtain ⟨fs, gs⟩ := x
 go_enter Tryz.func138, Tryz.ntmps138
 go_wp2_with fail
 refine HSC.out.mono ?_
 rintro e w1 ⟨v1, fl, gv, rfl, hf1, hm1, hg1, hk1⟩
 obtain ⟨p1, c1, rfl, -, -⟩ := ownsRow_form hf1.own
 obtain ⟨p2, n2, c2, rfl⟩ : ∃ p n c, gv = .slice p n c := let ⟨p, c, h, _⟩ := ownsRow_form hg1; ⟨p, _, c, h⟩
 have HF1 := Lib.hid hf1
 have HM1 := Lib.hid hm1
 have HK1 := Lib.hid hk1
 have hlen : fl.length = fs.length := by have := congrArg List.length hm1; simpa using this
 rw [hlen] at HF1 ⊢
 have HLen := Lib.hid hlen
 clear hf1 hm1 hg1 hk1 HSC hlen
 go_wp2_with fail
 go_loopw [2, 3, 19] (fun vv br i wr => ∃ (j : Nat) (ol : List (Fnd × Value)) (p : Option Addr) (c : Nat), i = .int .i64 (j : Int) ∧ j ≤ fs.length ∧ vv = .slice p ol.length c ∧ br = .int .i64 ((l.length : Int) - lenL (fs.take j)) ∧ Hid (FndsAt wr w.heap.size (.slice p ol.length c) ol ∧ ol.map (·.1) = fndL (fs.take j) ∧ Keeps w wr ∧ FramesAt wr w.heap.size (.slice p1 fs.length c1) fl)) (fun _ _ i _ => fs.length - (intOf i).toNat)
 case atStart => exact ⟨0, [], none, 0, rfl, Nat.zero_le _, rfl, by simp [lenL], Lib.hid ⟨FndsAt.nil _ _, rfl, HK1.out, HF1.out⟩⟩
 case round =>
  obtain ⟨j, ol, po, co, rfl, hj, rfl, rfl, HH⟩ := hrel
  by_cases hlt : j < fs.length
  ·have hlt1 : j < fl.length := by rw [HLen.out]; exact hlt
   obtain ⟨g, rfl, ⟨a0, a1, a2, a3⟩, hrow⟩ := HH.out.2.2.2.one hlt1
   have hfe : fl[j].1 = fs[j] := by
    have h := congrArg (fun l => l[j]?) HM1.out
    simp only [List.getElem?_map, List.getElem?_eq_getElem hlt1, List.getElem?_eq_getElem hlt, Option.map_some, Option.some.injEq] at h
    exact h
   rw [hfe] at a0 a1 a2 hrow
   have hb := HIN.out fs[j] (List.getElem_mem hlt)
   have HN := Lib.hid (fndL_next hlt)
   have HL := Lib.hid (lenL_next hlt)
   have hlj := HLT.out j
   have hlj1 := HLT.out (j + 1)
   have HOL : Hid (ol.length ≤ fs.length) := Lib.hid (by
    have h1 := congrArg List.length HH.out.2.1
    have h2 := fndL_len (fs.take j)
    rw [List.length_map] at h1
    rw [List.length_take] at h2
    omega)
   obtain ⟨pp, cp, hpp, -, -⟩ := hrow.formB
   have HRow := Lib.hid hrow
   rw [hpp] at a3 HRow
   clear hfe hrow hpp
   generalize fs[j] = f at *
   generalize fl[j].2 = fv at *
   have hcn := HCN.out
   go_upto_region 6 with fail
   obtain ⟨wy, hwy⟩ : ∃ wy, wy = World.alloc wr (Obj.cells #[.int .i64 f.at', .int .i64 f.len, .int .i64 f.kind, .slice pp f.pay.length cp] 238) := ⟨_, rfl⟩
   have HKy := Lib.hid (show Keeps wr wy from by rw [hwy]; exact (Keeps.refl _).alloc _)
   have HB := Lib.hid (show Blk wy wr.heap.size 238 #[.int .i64 f.at', .int .i64 f.len, .int .i64 f.kind, .slice pp f.pay.length cp] from by rw [hwy]; exact Blk.new _ _ _ rfl)
   rw [← hwy]
   clear hwy a0 a1 a2 a3
   have b0 : wy.cell? ⟨wr.heap.size, 0, none⟩ = some (.int .i64 f.at') := by rw [HB.out.cell]; rfl
   have b1 : wy.cell? ⟨wr.heap.size, 1, none⟩ = some (.int .i64 f.len) := by rw [HB.out.cell]; rfl
   have b2 : wy.cell? ⟨wr.heap.size, 2, none⟩ = some (.int .i64 f.kind) := by rw [HB.out.cell]; rfl
   have b3 : wy.cell? ⟨wr.heap.size, 3, none⟩ = some (.slice pp f.pay.length cp) := by rw [HB.out.cell]; rfl
   have HRD := Lib.hid (read_any f.kind (.slice pp f.pay.length cp) f.pay wy (HRow.out.keeps HKy.out) (by omega))
   go_wp2_with fail
   refine HRD.out.mono ?_
   rintro e w3 ⟨dv, rfl, hd3, hk3⟩
   obtain ⟨pd, nd, cd, rfl⟩ := hd3.sl
   have HP3 := Lib.hid (hd3.piece.lower (Nat.le_trans HH.out.2.2.1.size HKy.out.size))
   have HB3 := Lib.hid (HB.out.keeps hk3)
   have HF3 := Lib.hid (HH.out.1.keeps (HKy.out.trans hk3))
   have HK3 := Lib.hid (HH.out.2.2.1.trans (HKy.out.trans hk3))
   have HQ3 := Lib.hid (HH.out.2.2.2.keeps (HKy.out.trans hk3))
   have HO := Lib.hid HH.out.2.1
   have HFO : Hid (fndOf f = if readE f.kind f.pay = 0 then [⟨f.at', f.len, readR f.kind f.pay⟩] else []) := Lib.hid rfl
   clear hd3 hk3 HRD HB HKy HH b0 b1 b2 b3
   generalize readR f.kind f.pay = rr at *
   unfold recA
   by_cases he : readE f.kind f.pay = 0
   ·rw [he]
    have HN' : Hid (fndL (fs.take (j + 1)) = fndL (fs.take j) ++ [⟨f.at', f.len, rr⟩]) := Lib.hid (by rw [HN.out, HFO.out, if_pos he])
    have HL' : Hid (lenL (fs.take (j + 1)) = lenL (fs.take j) + f.len) := Lib.hid (by rw [HL.out, if_pos he])
    clear HN HL HFO he
    have hwp : IntKind.i64.wrap ((l.length : Int) - lenL (fs.take j) - f.len) = (l.length : Int) - lenL (fs.take j) - f.len := by rw [IntKind.wrap_i64]; rw [HL'.out] at hlj1; omega
    go_upto_region 8 with fail
    obtain ⟨wz, hwz⟩ : ∃ wz, wz = World.alloc w3 (Obj.cells (recA rr (.slice pd nd cd)) 154) := ⟨_, rfl⟩
    have HKz := Lib.hid (show Keeps w3 wz from by rw [hwz]; exact (Keeps.refl _).alloc _)
    have HBz := Lib.hid (show Blk wz w3.heap.size 154 (recA rr (.slice pd nd cd)) from by rw [hwz]; exact Blk.new _ _ _ rfl)
    unfold recA at hwz
    rw [← hwz]
    clear hwz
    have HFz := Lib.hid (HF3.out.keeps HKz.out)
    have HPz := Lib.hid (HP3.out.keeps HKz.out)
    have HFr := Lib.hid (HB3.out.keeps HKz.out)
    have HKzz := Lib.hid (HK3.out.trans HKz.out)
    have HQz := Lib.hid (HQ3.out.keeps HKz.out)
    have hsz : w.heap.size ≤ wz.heap.size := HKzz.out.size
    obtain ⟨r0, r1, r2, r3, r4, r5, r6, r7, r8, r9, r10, r11⟩ := rec12 HBz.out
    have b0 : wz.cell? ⟨wr.heap.size, 0, none⟩ = some (.int .i64 f.at') := by rw [HFr.out.cell]; rfl
    have b1 : wz.cell? ⟨wr.heap.size, 1, none⟩ = some (.int .i64 f.len) := by rw [HFr.out.cell]; rfl
    have hol := HOL.out
    clear HB3 HF3 HP3 HK3 HKz
    go_wp2_with (at_builtin; refine wpList_apps (base := w.heap.size) fndok (by decide) rfl _ _ rfl (.slice po ol.length co) (.slice (some ⟨wz.heap.size, 0, none⟩) 1 1) ol.length 1 (ol.flatMap fndC) (fndC (⟨f.at', f.len, rr⟩, .slice pd nd cd)) rfl rfl (ownsRow_keeps HFz.out.own ((Keeps.refl _).alloc _)) (rowS_lit rfl rfl rfl) (by simp [fndC, Value.oneCell']) (by omega) (by decide) (by rw [alloc_size]; omega) ?_; intro v' w4 ho4 hg4 hf4; obtain ⟨p4, c4, rfl, -, -⟩ := ownsRow_form ho4; have b1' : w4.cell? ⟨wr.heap.size, 1, none⟩ = some (.int .i64 f.len) := by { have h := (HFr.out.alloc (Obj.cells (fndC (⟨f.at', f.len, rr⟩, .slice pd nd cd)).toArray 213)).grown hg4 (ownsRow_ne (ownsRow_keeps HFz.out.own ((Keeps.refl _).alloc _)) (HFr.out.alloc (Obj.cells (fndC (⟨f.at', f.len, rr⟩, .slice pd nd cd)).toArray 213)) (by decide)); rw [h.cell]; rfl })
    go_roundw
    case rel =>
     have hs := (HFz.out.keeps ((Keeps.refl wz).alloc (Obj.cells (fndC (⟨f.at', f.len, rr⟩, .slice pd nd cd)).toArray 213))).snoc (f := ⟨f.at', f.len, rr⟩) (pv := .slice pd nd cd) (HPz.out.keeps ((Keeps.refl _).alloc _)) ho4 hg4
     refine ⟨j + 1, ol ++ [(⟨f.at', f.len, rr⟩, .slice pd nd cd)], p4, c4, by simp, by omega, by simp, by rw [HL'.out]; congr 1; omega, Lib.hid ⟨by simpa using hs, by rw [HN'.out, List.map_append, HO.out]; rfl, (HKzz.out.alloc _).grown hg4 (ownsRow_base HFz.out.own), framesGrown (HQz.out.keeps ((Keeps.refl _).alloc _)) (ownsRow_keeps HFz.out.own ((Keeps.refl _).alloc _)) (by decide) (by decide) hg4⟩⟩
    case measure =>
     simp only [intOf]
     omega
   ·have HN' : Hid (fndL (fs.take (j + 1)) = fndL (fs.take j)) := Lib.hid (by rw [HN.out, HFO.out, if_neg he, List.append_nil])
    have HL' : Hid (lenL (fs.take (j + 1)) = lenL (fs.take j)) := Lib.hid (by rw [HL.out, if_neg he, Int.add_zero])
    have he' : (readE f.kind f.pay != 0) = true := by simp [he]
    clear HN HL HFO he
    generalize readE f.kind f.pay = er at *
    go_wp2_with fail
    go_roundw
    case rel => exact ⟨j + 1, ol, po, co, by simp, by omega, rfl, by rw [HL'.out], Lib.hid ⟨HF3.out.keeps ((Keeps.refl _).alloc _), by rw [HN'.out]; exact HO.out, HK3.out.trans ((Keeps.refl _).alloc _), HQ3.out.keeps ((Keeps.refl _).alloc _)⟩⟩
    case measure =>
     simp only [intOf]
     omega
  ·obtain rfl : j = fs.length := by omega
   rw [List.take_length] at *
   go_wp2_with fail
   go_ret2
   exact ⟨_, ol, rfl, HH.out.1, HH.out.2.1, HH.out.2.2.1⟩
end Rcd
end Go.Proofs.YtklbemkafdccgaaGreat
