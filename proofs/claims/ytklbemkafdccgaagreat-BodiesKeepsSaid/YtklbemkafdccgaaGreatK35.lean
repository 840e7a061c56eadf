/- Several texts in one: BdLoad, BdKeepPl, BdGoodPl, BdKeepLw, BdAftPl. -/
import Derived.Test.YtklbemkafdccgaaGreatK32
import Derived.Test.YtklbemkafdccgaaGreatRecScan
import Derived.Test.YtklbemkafdccgaaGreatK10
import Derived.Test.YtklbemkafdccgaaGreatK28
/- bodies: load, the store of a file's bytes. -/
namespace Go.Proofs.YtklbemkafdccgaaGreat
open Go.RowKit
namespace Bds
open Mp Go.Maps
open Rcd (Fnd Rec fndL fndC FndsAt RecScanDid readE readR chk)
open Frm (ownsRow_mods ownsRow_keeps ownsRow_form scanR)
/-- what a record of a body that was found is -/
theorem fnd_ok {l : List UInt8} {f : Fnd} (h : f ∈ fndL (scanR l).1) : chk f.rc = 0 ∧ 0 ≤ f.len ∧ f.len ≤ l.length := by
 unfold fndL at h
 obtain ⟨x, hx, hf⟩ := List.mem_flatMap.1 h
 unfold Rcd.fndOf at hf
 split at hf
 ·rename_i h0
  rw [List.mem_singleton] at hf
  subst hf
  have h1 := (Rcd.scanN_in l l.length 0 0 (Nat.zero_le _) (Nat.le_refl _)).1 x hx
  exact ⟨(Rcd.read_back h0).1, h1.1, h1.2.1⟩
 ·cases hf
theorem chk_six {r : Rec} (h : chk r = 0) (hk : r.kind = 6) : 1 ≤ r.body ∧ r.body ≤ 2147483648 ∧ r.data.length ≤ 32768 := by
 obtain ⟨-, h2, -, h4, -⟩ := Rcd.chk_zero h
 have hp := h2 Rcd.pBody (by rw [hk]; exact List.mem_cons_self ..)
 unfold Rcd.okP at hp
 simp only [Bool.and_eq_true, decide_eq_true_eq] at hp
 exact ⟨hp.1, hp.2, h4⟩
/-- where load stands behind some records -/
structure LdIs (l : List UInt8) (fs : List Fnd) (j : Nat) (s : BdP) : Prop where
 eq : s = (fs.take j).foldl loadStep (load0 l.length)
 n0 : 0 ≤ s.next
 n1 : s.next ≤ 2147483649
 ll : s.L.length ≤ j
 b1 : s.broken ≤ l.length
 b0 : (l.length : Int) - j * l.length ≤ s.broken
theorem ldIs_next {l : List UInt8} {j : Nat} {s : BdP} (h : LdIs l (fndL (scanR l).1) j s) (hj : j < (fndL (scanR l).1).length) : LdIs l (fndL (scanR l).1) (j + 1) (loadStep s (fndL (scanR l).1)[j]) := by
 obtain ⟨hc, h0, h1⟩ := fnd_ok (List.getElem_mem hj)
 have hs : loadStep s (fndL (scanR l).1)[j] = ((fndL (scanR l).1).take (j + 1)).foldl loadStep (load0 l.length) := by
  rw [List.take_succ_eq_append_getElem hj, List.foldl_append, ← h.eq]
  rfl
 refine ⟨hs, ?_, ?_, ?_, ?_, ?_⟩
 all_goals
  clear hs
  generalize (fndL (scanR l).1)[j] = f at *
  have hn0 := h.n0
  have hn1 := h.n1
  have hll := h.ll
  have hb1 := h.b1
  have hb0 := h.b0
  have hmul : ((j + 1 : Nat) : Int) * l.length = j * l.length + l.length := by
   rw [Int.natCast_add, Int.add_mul]
   omega
  unfold loadStep
  split
  ·rename_i hk
   obtain ⟨k1, k2, -⟩ := chk_six hc hk
   unfold addB
   split
   ·rw [if_neg (by simp)]
    simp only
    omega
   ·rw [if_pos rfl]
    simp only [List.length_append, List.length_cons, List.length_nil]
    omega
  ·omega
section
variable {w w' : World} {O O' : Nat → Prop} {g b1 b2 gd n m : Nat} {s : BdP} {nv : List NumX} {av : List AlkX}
theorem StIn.setBroken (h : StIn w O g b1 b2 gd n s nv av) (x : Int) : StIn (w.setCell ⟨g, 2, none⟩ (.int .i64 x)) O g b1 b2 gd n ⟨s.next, x, s.L⟩ nv av ∧ Mods (· = g) w (w.setCell ⟨g, 2, none⟩ (.int .i64 x)) := by
 have hm : Mods (· = g) w (w.setCell ⟨g, 2, none⟩ (.int .i64 x)) := (Mods.refl (· = g) w).setCell (p := ⟨g, 2, none⟩) (fun _ => rfl) _
 have hne := h.neg
 have hcell : ∀ cs e fr, e ≠ 151 → w.heap[g]? ≠ some (.cells cs e fr) := fun cs e fr he hh => by
  rw [show w.heap[g]? = _ from h.blk] at hh
  simp only [Option.some.injEq, Obj.cells.injEq] at hh
  exact he hh.2.1.symm
 refine ⟨{ h with blk := h.blk.set_ 2 (.int .i64 x), num := ?_, row := fun y hy => (h.row y hy).modsT hm (fun z hz cs fr => by subst hz; exact hcell cs _ fr (by decide)), alk := ?_, own := fun y hy => ownsRow_mods (h.own y hy) hm (fun z hz e => by
  subst e
  obtain ⟨cs, hh⟩ := Usr.owns_obj (h.own y hy) hz
  exact hcell cs _ _ (by decide) hh) }, hm⟩
 ·obtain ⟨D, h1, h2⟩ := h.num
  exact ⟨D, Usr.map_modsS h1 hm hne.1, h2⟩
 ·obtain ⟨D, h1, h2⟩ := h.alk
  exact ⟨D, Usr.map_modsS h1 hm hne.2, h2⟩
theorem StAt.wide (h : StAt w O g gd n s) (ho : ∀ y, O y → O' y) (hn : n ≤ m) : StAt w O' g gd m s := let ⟨b1, b2, nv, av, h⟩ := h; ⟨b1, b2, nv, av, h.wide ho hn⟩
theorem FndsAt.keepTy {base : Nat} {v : Value} {fl : List (Fnd × Value)} {S : Nat → Prop} (h : FndsAt w base v fl) (k : Mods S w w') (hS : ∀ y, S y → TyB w y) : FndsAt w' base v fl :=
 h.mods k (fun x hx cs fr hh => by
  rcases hS x hx with ⟨c, f, e⟩ | ⟨c, f, e⟩ | ⟨c, f, e⟩ <;> rw [e] at hh <;> simp only [Option.some.injEq, Obj.cells.injEq, reduceCtorEq] at hh
  ·exact absurd hh.2.1 (by decide)
  ·exact absurd hh.2.1 (by decide)) (fun x hx cs fr hh => by
  rcases hS x hx with ⟨c, f, e⟩ | ⟨c, f, e⟩ | ⟨c, f, e⟩ <;> rw [e] at hh <;> simp only [Option.some.injEq, Obj.cells.injEq, reduceCtorEq] at hh
  ·exact absurd hh.2.1 (by decide)
  ·exact absurd hh.2.1 (by decide))
end
/-- the blocks since a world -/
def Since (W w : World) (y : Nat) : Prop := W.heap.size ≤ y ∧ y < w.heap.size
def LoadDid (W : World) (gd : Nat) (l : List UInt8) (e : Ending) (w' : World) : Prop := ∃ g n, e = .returned (.pointer (some ⟨g, 0, none⟩)) ∧ W.heap.size ≤ g ∧ n ≤ (fndL (scanR l).1).length ∧ StAt w' (Since W w') g gd n (loadF (fndL (scanR l).1) l.length) ∧ Keeps W w'
theorem fndM14 : Mids Tryz.prog 213 14 := ⟨⟨_, Tryz.underlying213, rfl⟩, by kernel_rfl⟩
set_option maxRecDepth 100000 in
set_option maxHeartbeats 8000000 in
theorem load_any (W : World) (gd : Nat) (v : Value) (l : List UInt8) (hr : Row W v (l.map u8v)) (hl : l.length ≤ 800000) : Calls Tryz.prog 80 #[.pointer (some ⟨gd, 0, none⟩), v] W (LoadDid W gd l) := by
 obtain ⟨p, cap, rfl, -, -⟩ := hr.form
 rw [List.length_map] at hr ⊢
 have HR := Lib.hid hr
 have HL := Lib.hid hl
 have hmk1 : ∀ w, (Instr.makeMap 148 none).run Tryz.prog w = .ok (.map (some w.heap.size)) (w.alloc (.map #[] 0)) := fun w => run_makeMap _ w
 have hmk2 : ∀ w, (Instr.makeMap 149 none).run Tryz.prog w = .ok (.map (some w.heap.size)) (w.alloc (.map #[] 0)) := fun w => run_makeMap _ w
 clear hr hl
 go_enter Tryz.func80, Tryz.ntmps80
 go_upto_region 2 with fail
 generalize hW : World.alloc (World.alloc (World.alloc W _) _) _ = w1
 have HI1 := Lib.hid (show StIn w1 (Since W w1) (W.heap.size + 1 + 1) W.heap.size (W.heap.size + 1) gd 0 ⟨1, 0, []⟩ [] [] from by
  have e1 : (W.alloc (.map #[] 0)).heap.size = W.heap.size + 1 := Frm.alloc_size _ _
  have e2 : ((W.alloc (.map #[] 0)).alloc (.map #[] 0)).heap.size = W.heap.size + 1 + 1 := by rw [Frm.alloc_size, e1]
  have e3 : w1.heap.size = W.heap.size + 1 + 1 + 1 := by rw [← hW, Frm.alloc_size, e2]
  have o1 : ((W.alloc (.map #[] 0)).ownsMap Tryz.prog 3 slqElem W.heap.size 0 (.map [])) := World.ownsMap_made W Tryz.prog _ _
  have o2 : (((W.alloc (.map #[] 0)).alloc (.map #[] 0)).ownsMap Tryz.prog 198 slqElem (W.alloc (.map #[] 0)).heap.size 0 (.map [])) := World.ownsMap_made _ Tryz.prog _ _
  rw [e1] at o2
  refine ⟨?_, ⟨.map [], ?_, MapOf.new⟩, rfl, fun x hx => (by cases hx), fun x hx => (by cases hx), ⟨.map [], ?_, MapOf.new⟩, fun x hx => (by cases hx), fun x hx => (by cases hx), fun x hx => (by cases hx), fun x hx => (by cases hx), List.Pairwise.nil, ⟨show _ ∧ _ from ⟨by omega, by omega⟩, show _ ∧ _ from ⟨by omega, by omega⟩, show _ ∧ _ from ⟨by omega, by omega⟩⟩, by omega, fun x hx => (by cases hx)⟩
  ·rw [← hW]; exact Blk.new _ _ _ e2.symm
  ·rw [← hW]; exact Usr.map_keepsS o1 (((Keeps.refl _).alloc _).alloc _)
  ·rw [← hW]; exact Usr.map_keepsS o2 ((Keeps.refl _).alloc _))
 have HK1 := Lib.hid (show Keeps W w1 from by rw [← hW]; exact (((Keeps.refl _).alloc _).alloc _).alloc _)
 clear hW hmk1 hmk2
 obtain ⟨g, hg⟩ : ∃ z, W.heap.size + 1 + 1 = z := ⟨_, rfl⟩
 have HG := Lib.hid (show W.heap.size ≤ g from by omega)
 rw [hg] at HI1 ⊢
 generalize W.heap.size + 1 = b2 at *
 obtain ⟨b1, hb1⟩ : ∃ z, W.heap.size = z := ⟨_, rfl⟩
 have HI1 := Lib.hid (show ∃ b1, StIn w1 (Since W w1) g b1 b2 gd 0 ⟨1, 0, []⟩ [] [] from ⟨_, HI1.out⟩)
 simp only [hb1]
 clear hg hb1
 have CS := Lib.hid (Rcd.rcScan_any _ l w1 (HR.out.keeps HK1.out) (by have := HL.out; omega))
 go_wp2_with fail
 refine CS.out.mono ?_
 rintro e w2 ⟨fv, fl, rfl, hf, hfm, hk⟩
 obtain ⟨fp, fc, rfl, hfc1, hfc2⟩ := ownsRow_form hf.own
 have HF := Lib.hid hf
 have HFM := Lib.hid hfm
 have HK2 := Lib.hid (HK1.out.trans hk)
 obtain ⟨b1', hi1⟩ := HI1.out
 have HI2 := Lib.hid ((hi1.keeps hk).wide (O' := Since W w2) (m := 0) (fun y hy => ⟨hy.1, Nat.lt_of_lt_of_le hy.2 hk.size⟩) (Nat.le_refl _))
 have HSZ := Lib.hid (And.intro HK1.out.size hk.size)
 clear hf hfm hk hi1 HI1 CS hfc1 hfc2
 obtain ⟨-, -, c2, -, -⟩ := HI2.out.cells
 have y2 : w2.frozen? ⟨g, 2, none⟩ = false := HI2.out.blk.frozen 2
 go_upto_region 4 with fail
 have HI3 := Lib.hid (HI2.out.setBroken (l.length : Int))
 clear c2 y2
 generalize World.setCell w2 _ _ = w3 at *
 have HF3 := Lib.hid (FndsAt.keepTy HF.out HI3.out.2 (fun y hy => by rw [hy]; exact HI2.out.tyg))
 have HK3 := Lib.hid (HI3.out.2.keeps HK2.out (fun y hy => by rw [hy]; exact HG.out))
 have HI4 := Lib.hid (show StAt w3 (Since W w3) g gd 0 (load0 l.length) from ⟨_, _, _, _, HI3.out.1.wide (fun y hy => ⟨hy.1, Nat.lt_of_lt_of_le hy.2 HI3.out.2.size⟩) (Nat.le_refl _)⟩)
 have HLN := Lib.hid (show fl.length = (fndL (scanR l).1).length from by rw [← HFM.out, List.length_map])
 have HSB := Lib.hid (show w1.heap.size ≤ w3.heap.size from Nat.le_trans HSZ.out.2 HI3.out.2.size)
 have HLL := Lib.hid (show fl.length ≤ 900000 from by
  have h1 := Rcd.fndL_len (scanR l).1
  have h2 : (scanR l).1.length ≤ l.length := (Frm.scanN_count l l.length 0 0).1
  have h3 := HLN.out
  have h4 := HL.out
  omega)
 clear HI2 HI3 HF HK2
 go_wp2_with fail
 go_loopw [27] (fun iv wr => ∃ (j : Nat) (n : Nat) (s : BdP), iv = .int .i64 (j : Int) ∧ Hid (j ≤ fl.length ∧ n ≤ j ∧ LdIs l (fndL (scanR l).1) j s ∧ StAt wr (Since W wr) g gd n s ∧ FndsAt wr w1.heap.size (.slice fp fl.length fc) fl ∧ Keeps W wr)) (fun iv _ => fl.length - (RowKit.intOf iv).toNat)
 case atStart => exact ⟨0, 0, load0 l.length, rfl, Lib.hid ⟨Nat.zero_le _, Nat.le_refl _, ⟨rfl, by show (0 : Int) ≤ 1; decide, by show (1 : Int) ≤ 2147483649; decide, Nat.le_refl _, Int.le_refl _, by show _ ≤ (l.length : Int); omega⟩, HI4.out, HF3.out, HK3.out⟩⟩
 case round =>
  obtain ⟨j, n, s, rfl, HH⟩ := hrel
  obtain ⟨wz, rfl⟩ : ∃ z : World, z = wr := ⟨_, rfl⟩
  clear HI4 HF3 HK3
  have hw : IntKind.i64.wrap ((j : Int) + 1) = (j : Int) + 1 := IntWalk.i64_in _ (by have := HLL.out; have := HH.out.1; omega)
  by_cases hlt : j < fl.length
  ·have hd : decide ((j : Int) < (fl.length : Int)) = true := decide_eq_true (by omega)
   have hlt2 : j < (fndL (scanR l).1).length := by rw [← HLN.out]; exact hlt
   obtain ⟨gl, cap', hv, -, -, -, hc⟩ := Frm.ownsRow_at HH.out.2.2.2.2.1.own (by omega)
   simp only [Value.slice.injEq] at hv
   obtain ⟨rfl, -, rfl⟩ := hv
   have hpay := HH.out.2.2.2.2.1.pay _ (List.getElem_mem hlt)
   have hfe : (fndL (scanR l).1)[j] = fl[j].1 := by
    have e : (fl.map (·.1))[j]? = (fndL (scanR l).1)[j]? := by rw [HFM.out]
    rw [List.getElem?_map, List.getElem?_eq_getElem hlt, List.getElem?_eq_getElem hlt2] at e
    exact (Option.some.inj e).symm
   have hstep := ldIs_next HH.out.2.2.1 hlt2
   have hok := fnd_ok (List.getElem_mem hlt2)
   rw [hfe] at hstep hok
   have HSTEP := Lib.hid hstep
   have HRG := Lib.hid (show wz.rangeAt gl (j * 14) (fndC fl[j]) from fun m x hm => by
    have h14 : m < 14 := by have := (List.getElem?_eq_some_iff.1 hm).1; rwa [Rcd.fndC_len] at this
    exact hc (j * 14 + m) x (by rw [flat_get Rcd.fndC_len fl j m _ (List.getElem?_eq_getElem hlt) h14]; exact hm))
   clear hc hfe hstep hlt2
   generalize fl[j] = X at *
   obtain ⟨⟨fat, flen, ⟨k0, k1, k2, k3, k4, k5, k6, k7, k8, k9, k10, data⟩⟩, dv⟩ := X
   obtain ⟨pd, cd, hdv, -, -⟩ := hpay.form
   simp only at hpay hdv HRG HSTEP hok
   subst hdv
   rw [List.length_map] at hpay HRG
   have HRG := Lib.hid (show wz.rangeAt gl (j * 14) [.int .i64 fat, .int .i64 flen, .int .i64 k0, .int .i64 k1, .int .i64 k2, .int .i64 k3, .int .i64 k4, .int .i64 k5, .int .i64 k6, .int .i64 k7, .int .i64 k8, .int .i64 k9, .int .i64 k10, .slice pd data.length cd] from HRG.out)
   have HPAY := Lib.hid hpay
   have HOK := Lib.hid hok
   clear hpay hok
   go_upto_region 7 with (refine wpList_ldR rfl fndM14 HRG.out _ rfl rfl ?_)
   generalize hW : World.alloc wz _ = wa
   have HD := Lib.hid (show Blk wa wz.heap.size 213 #[.int .i64 fat, .int .i64 flen, .int .i64 k0, .int .i64 k1, .int .i64 k2, .int .i64 k3, .int .i64 k4, .int .i64 k5, .int .i64 k6, .int .i64 k7, .int .i64 k8, .int .i64 k9, .int .i64 k10, .slice pd data.length cd] from by rw [← hW]; exact Blk.new _ _ _ rfl)
   have HKA := Lib.hid (show Keeps wz wa from by rw [← hW]; exact (Keeps.refl _).alloc _)
   clear hW HRG
   obtain ⟨d, hdq⟩ : ∃ z, wz.heap.size = z := ⟨_, rfl⟩
   rw [hdq] at HD ⊢
   clear hdq
   have d1 : wa.cell? ⟨d, 1, none⟩ = some (.int .i64 flen) := by rw [HD.out.cell]; rfl
   have d2 : wa.cell? ⟨d, 2, none⟩ = some (.int .i64 k0) := by rw [HD.out.cell]; rfl
   have d10 : wa.cell? ⟨d, 10, none⟩ = some (.int .i64 k8) := by rw [HD.out.cell]; rfl
   have d13 : wa.cell? ⟨d, 13, none⟩ = some (.slice pd data.length cd) := by rw [HD.out.cell]; rfl
   have HKW := Lib.hid (HH.out.2.2.2.2.2.trans HKA.out)
   have HFA := Lib.hid (HH.out.2.2.2.2.1.keeps HKA.out)
   have HSA := Lib.hid ((HH.out.2.2.2.1.keeps HKA.out).wide (O' := Since W wa) (m := n) (fun y hy => show _ ∧ _ from ⟨hy.1, Nat.lt_of_lt_of_le hy.2 HKA.out.size⟩) (Nat.le_refl _))
   have HPA := Lib.hid (HPAY.out.keeps HKA.out)
   have HJ := Lib.hid (And.intro HH.out.1 HH.out.2.1)
   have HLD := Lib.hid HH.out.2.2.1
   clear HH HKA HPAY
   by_cases h6 : k0 = 6
   ·have e6 : (k0 == 6) = true := by simp [h6]
    have HB := Lib.hid (show 1 ≤ k8 ∧ k8 ≤ 2147483648 ∧ data.length ≤ 32768 from chk_six HOK.out.1 h6)
    have HLS := Lib.hid (show loadStep s ⟨fat, flen, ⟨k0, k1, k2, k3, k4, k5, k6, k7, k8, k9, k10, data⟩⟩ = if (addB s k8 data).2 = true then { (addB s k8 data).1 with broken := (addB s k8 data).1.broken - flen } else (addB s k8 data).1 from by
     unfold loadStep
     rw [if_pos h6])
    have HBR := Lib.hid (show (addB s k8 data).1.broken = s.broken from by
     unfold addB
     split <;> rfl)
    clear h6
    have CA := Lib.hid (add_any wa (Since W wa) g gd n s HSA.out (fun y hy => hy.2) (by have := HJ.out; have := HLL.out; omega) (by have := HJ.out; have := HLL.out; have := HLD.out.ll; omega) k8 (by have := HB.out; omega) (by have h1 := HLD.out.n0; have h2 := HLD.out.n1; omega) pd cd data (by have := HB.out; omega) (HPA.out.lower (Nat.zero_le _)) (fun hne a ha => by
     rcases HPA.out with ⟨a0, cap0, hv, h0, -⟩ | ⟨q, off, cap0, cs, fr, hv, h0, h1, -, -, h4, -⟩
     ·exact absurd (List.map_eq_nil_iff.1 h0) hne
     ·simp only [Value.slice.injEq] at hv
      rw [ha] at hv
      simp only [Option.some.injEq] at hv
      rw [hv.1]
      exact show _ ∧ _ from ⟨by have := HSZ.out.1; exact Nat.le_trans this h1, (Array.getElem?_eq_some_iff.1 h4).1⟩))
    generalize addB s k8 data = r at *
    obtain ⟨s', bb⟩ := r
    simp only at HLS HBR
    go_wp2_with fail
    refine CA.out.mono ?_
    rintro e wb ⟨rfl, hst, hm⟩
    have HM := Lib.hid hm
    have HSB2 := Lib.hid (hst.wide (O' := Since W wb) (m := n + 1) (fun y hy => by
     have := hm.size
     have h0 := HKW.out.size
     rcases hy with hy | hy
     ·exact show _ ∧ _ from ⟨hy.1, Nat.lt_of_lt_of_le hy.2 this⟩
     ·exact show _ ∧ _ from ⟨by omega, hy.2⟩) (Nat.le_refl _))
    have HFB := Lib.hid (FndsAt.keepTy HFA.out hm (fun y hy => hy.2))
    have HKB := Lib.hid (hm.keeps HKW.out (fun y hy => hy.1.1))
    have HDB := Lib.hid (HD.out.mods hm (fun hy => by
     have hd := HD.out
     rcases hy.2 with ⟨c, f, e⟩ | ⟨c, f, e⟩ | ⟨c, f, e⟩ <;> rw [show wa.heap[d]? = _ from hd] at e <;> simp only [Option.some.injEq, Obj.cells.injEq, reduceCtorEq] at e
     ·exact absurd e.2.1 (by decide)
     ·exact absurd e.2.1 (by decide)))
    clear hst hm CA d1 d2 d10 d13 HD HSA HPA HFA
    cases bb with
    |false =>
     have HLS2 := Lib.hid (show loadStep s ⟨fat, flen, ⟨k0, k1, k2, k3, k4, k5, k6, k7, k8, k9, k10, data⟩⟩ = s' from by rw [HLS.out]; exact if_neg (by simp))
     go_wp2_with fail
     go_roundw
     case rel =>
      refine ⟨j + 1, n + 1, s', by simp, Lib.hid ⟨by omega, by have := HJ.out; omega, ?_, HSB2.out, HFB.out, HKB.out⟩⟩
      have := HSTEP.out
      rwa [HLS2.out] at this
     case measure => simp only [RowKit.intOf]; omega
    |true =>
     have HLS2 := Lib.hid (show loadStep s ⟨fat, flen, ⟨k0, k1, k2, k3, k4, k5, k6, k7, k8, k9, k10, data⟩⟩ = { s' with broken := s'.broken - flen } from by rw [HLS.out]; exact if_pos rfl)
     obtain ⟨c1, c2, nv, av, hin⟩ := HSB2.out
     have HIN := Lib.hid hin
     have hws : IntKind.i64.wrap (s'.broken - flen) = s'.broken - flen := IntWalk.i64_in _ (by
      rw [HBR.out]
      have h1 := HLD.out.b0
      have h2 := HLD.out.b1
      have h3 := HOK.out.2
      have h4 := HL.out
      have h5 := HJ.out.1
      have h6 := HLL.out
      have h7 : (j : Int) * l.length ≤ 900000 * 800000 := by
       have h8 : j * l.length ≤ 900000 * 800000 := Nat.mul_le_mul (by omega) h4
       have h9 : ((j * l.length : Nat) : Int) = (j : Int) * l.length := Int.natCast_mul _ _
       rw [← h9]
       omega
      omega)
     have g2 := hin.cells.2.2.1
     have d1 : wb.cell? ⟨d, 1, none⟩ = some (.int .i64 flen) := by rw [HDB.out.cell]; rfl
     clear hin
     go_upto_region 8 with fail
     have HId := Lib.hid (HIN.out.keeps (Keeps.refl wb).drew)
     have HNG := Lib.hid (show d ≠ g from fun e => by
      have h1 : wb.heap[d]? = _ := HDB.out
      have h2 := HIN.out.blk
      rw [e, show wb.heap[g]? = _ from h2] at h1
      simp only [Option.some.injEq, Obj.cells.injEq] at h1
      exact absurd h1.2.1 (by decide))
     refine wp_region_noPanic ?_
     refine wp_region_held_drew (S := fun w' => Mods (· = g) wb w') (by kernel_rfl) ((Mods.refl (· = g) wb).drew) (fun _ => ?_)
     have hHeld : Mods (· = g) wb (wb).drew := (Mods.refl (· = g) wb).drew
     generalize World.drew wb = xs at *
     refine tq 0 45 ?_
     refine tq 1 46 ?_
     refine tq 2 47 ?_
     refine tq 4 49 ?_
     refine tq 5 50 ?_ (hy := fun w' hSw => by
      have hSw : Mods (· = g) wb w' := hSw
      have h0 := hSw.cell d1 HNG.out
      clear hSw
      go_simp
      try with_reducible rfl)
     refine rd1 3 (fun K hK => ?_)
     have hx0 : World.cell? xs ⟨g, 2, none⟩ = some (.int .i64 s'.broken) := HId.out.cells.2.2.1
     go_simp
     clear hx0
     have hb := hHeld
     refine bkm hK hb ?_
     clear hK K hHeld
     have hHeld : Mods (· = g) wb xs := hb
     clear hb
     refine tq 6 51 ?_
     refine tq 7 52 ?_
     refine tq 8 53 ?_
     refine rd1 9 (fun K hK => ?_)
     have hx0 : World.frozen? xs ⟨g, 2, none⟩ = false := HId.out.blk.frozen 2
     have hy0 : World.cell? xs ⟨g, 2, none⟩ = some (.int .i64 s'.broken) := HId.out.cells.2.2.1
     go_simp
     have HIF := Lib.hid (HId.out.setBroken (s'.broken - flen))
     have hb := hHeld.setCell (p := ⟨g, 2, none⟩) (fun _ => rfl) (.int .i64 (s'.broken - flen))
     clear hx0 hy0 HId
     generalize World.setCell xs ⟨g, 2, none⟩ (.int .i64 (s'.broken - flen)) = xF at *
     refine bkm hK hb ?_
     clear hK K hHeld
     have hHeld : Mods (· = g) wb xF := hb
     clear hb
     refine wpAnyH_done (by kernel_rfl) ?_ _
     refine NoPanic.normal ?_
     go_wp2_with fail
     go_roundw
     case rel =>
      refine ⟨j + 1, n + 1, { s' with broken := s'.broken - flen }, by simp, Lib.hid ⟨by omega, by have := HJ.out; omega, ?_, ⟨_, _, _, _, HIF.out.1.wide (fun y hy => show _ ∧ _ from ⟨hy.1, Nat.lt_of_lt_of_le hy.2 hHeld.size⟩) (Nat.le_refl _)⟩, FndsAt.keepTy HFB.out hHeld (fun y hy => by rw [hy]; exact HIN.out.tyg), hHeld.keeps HKB.out (fun y hy => by rw [hy]; exact HG.out)⟩⟩
      have := HSTEP.out
      rwa [HLS2.out] at this
     case measure => simp only [RowKit.intOf]; omega
   ·have e6 : (k0 == 6) = false := by simp [h6]
    have HLS := Lib.hid (show loadStep s ⟨fat, flen, ⟨k0, k1, k2, k3, k4, k5, k6, k7, k8, k9, k10, data⟩⟩ = s from by
     unfold loadStep
     rw [if_neg h6])
    clear h6
    go_wp2_with fail
    go_roundw
    case rel =>
     refine ⟨j + 1, n, s, by simp, Lib.hid ⟨by omega, by have := HJ.out; omega, ?_, HSA.out, HFA.out, HKW.out⟩⟩
     have := HSTEP.out
     rwa [HLS.out] at this
    case measure => simp only [RowKit.intOf]; omega
  ·have hd : decide ((j : Int) < (fl.length : Int)) = false := decide_eq_false (by omega)
   have HE := Lib.hid (show s = loadF (fndL (scanR l).1) l.length from by
    rw [HH.out.2.2.1.eq, List.take_of_length_le (by have := HLN.out; have := HH.out.1; omega)]
    rfl)
   go_wp2_with fail
   go_ret
   rw [HE.out] at HH
   exact ⟨g, n, rfl, HG.out, by have := HH.out.1; have := HH.out.2.1; have := HLN.out; omega, HH.out.2.2.2.1, HH.out.2.2.2.2.2⟩
end Bds
end Go.Proofs.YtklbemkafdccgaaGreat

/- bodies, plain: what is loaded of bodies' frames, one behind the other. -/
namespace Go.Proofs.YtklbemkafdccgaaGreat.Bds
open Rcd (Rec Fnd frmL chk catX inX fndL lenL)
open Frm (scanR)
/-- bodies that can be records, no number twice -/
structure BdsOk (M : List (Int × Str)) : Prop where
 ok : ∀ x ∈ M, 1 ≤ x.1 ∧ x.1 ≤ 2147483648 ∧ x.2.length ≤ 32768
 nd : (M.map (·.1)).Nodup
def recsOf (M : List (Int × Str)) : List (Rec × Go.Value) := M.map fun x => (bdRec x.1 x.2, .bool false)
theorem recs_cat (M : List (Int × Str)) : catX (recsOf M) = framesB M := by
 unfold catX recsOf framesB
 rw [List.flatMap_map]
 rfl
def nextOf (M : List (Int × Str)) : Int := M.foldl (fun n x => max n (x.1 + 1)) 1
theorem load_all : ∀ (M M0 : List (Int × Str)) (u : Nat) (s : BdP), BdsOk (M0 ++ M) → s.L = M0 →
  ((inX (recsOf M) u).map (·.1)).foldl loadStep s = ⟨M.foldl (fun n x => max n (x.1 + 1)) s.next, s.broken - (framesB M).length, M0 ++ M⟩
 | [], M0, u, s, _, hs => by
  obtain ⟨a, b, c⟩ := s
  simp only at hs
  subst hs
  simp [recsOf, inX, framesB]
 |x :: M, M0, u, s, h, hs => by
  have hx := h.ok x (by simp)
  have hc := chk_bd hx.1 hx.2.1 hx.2.2
  have hnot : x.1 ∉ keysB s := by
   unfold keysB
   rw [hs]
   have := h.nd
   rw [List.map_append, List.map_cons, List.nodup_append] at this
   exact fun hm => this.2.2 _ hm x.1 (by simp) rfl
  show ((inX ((bdRec x.1 x.2, .bool false) :: recsOf M) u).map (·.1)).foldl loadStep s = _
  rw [inX, if_pos hc, List.map_cons, List.foldl_cons]
  have hst : loadStep s ⟨u, (frmL (bdRec x.1 x.2)).length, bdRec x.1 x.2⟩ = ⟨max s.next (x.1 + 1), s.broken - (frmL (bdRec x.1 x.2)).length, M0 ++ [x]⟩ := by
   have ha : addB s x.1 x.2 = (⟨max s.next (x.1 + 1), s.broken, s.L ++ [(x.1, x.2)]⟩, true) := if_neg hnot
   unfold loadStep
   rw [if_pos (show (bdRec x.1 x.2).kind = 6 from rfl)]
   show (if (addB s x.1 x.2).2 = true then (⟨(addB s x.1 x.2).1.next, (addB s x.1 x.2).1.broken - (frmL (bdRec x.1 x.2)).length, (addB s x.1 x.2).1.L⟩ : BdP) else (addB s x.1 x.2).1) = _
   rw [ha, if_pos rfl, ← hs]
  rw [hst, load_all M (M0 ++ [x]) _ _ (by rw [List.append_assoc]; exact h) rfl]
  simp only [List.foldl_cons, List.append_assoc, List.singleton_append]
  congr 1
  unfold framesB
  rw [List.flatMap_cons, List.length_append]
  unfold frB
  omega
/-- what is read of bodies' frames is these bodies -/
theorem load_frames {M : List (Int × Str)} (h : BdsOk M) : loadF (fndL (scanR (framesB M)).1) (framesB M).length = ⟨nextOf M, 0, M⟩ := by
 have h1 := (Rcd.scan_all (recsOf M)).1
 rw [recs_cat] at h1
 rw [h1]
 unfold loadF
 rw [load_all M [] 0 (load0 (framesB M).length) h rfl]
 unfold nextOf load0
 simp
end Go.Proofs.YtklbemkafdccgaaGreat.Bds

/- bodies, plain: whatever is put, one behind the other; what Keep leaves. -/
namespace Go.Proofs.YtklbemkafdccgaaGreat.Bds
theorem nodup_inj {α β : Type} {f : α → β} : ∀ {l : List α}, (l.map f).Nodup → ∀ x ∈ l, ∀ y ∈ l, f x = f y → x = y
 | [], _, x, hx, _, _, _ => absurd hx List.not_mem_nil
 |a :: l, h, x, hx, y, hy, e => by
  rw [List.map_cons, List.nodup_cons] at h
  rcases List.mem_cons.1 hx with rfl | hx'
  ·rcases List.mem_cons.1 hy with rfl | hy'
   ·rfl
   ·exact absurd (List.mem_map.2 ⟨y, hy', e.symm⟩) h.1
  ·rcases List.mem_cons.1 hy with rfl | hy'
   ·exact absurd (List.mem_map.2 ⟨x, hx', e⟩) h.1
   ·exact nodup_inj h.2 x hx' y hy' e
/-- a store into which bodies were put alone -/
structure Good (s : BdP) : Prop where
 num : keysB s = (List.range s.L.length).map (fun (j : Nat) => ((j + 1 : Nat) : Int))
 vals : (s.L.map (·.2)).Nodup
 next : s.next = (s.L.length : Int) + 1
 broken : s.broken = 0
def putN (s : BdP) (b : Str) : Int := if 0 < findB s b then findB s b else s.next
def putB (s : BdP) (b : Str) : BdP := if 0 < findB s b then s else (addB s s.next b).1
section
variable {s : BdP} {b : Str} {n : Int}
theorem Good.asc (h : Good s) : (keysB s).Pairwise (· < ·) := by
 rw [h.num]
 exact List.pairwise_map.2 (List.pairwise_lt_range.imp (fun h => by omega))
theorem asc_nd {l : List Int} (h : l.Pairwise (· < ·)) : l.Nodup := h.imp (fun h => by omega)
theorem Good.key (h : Good s) : n ∈ keysB s ↔ 1 ≤ n ∧ n ≤ s.L.length := by
 rw [h.num, List.mem_map]
 constructor
 ·rintro ⟨j, hj, rfl⟩
  have := List.mem_range.1 hj
  omega
 ·rintro ⟨h1, h2⟩
  exact ⟨n.toNat - 1, List.mem_range.2 (by omega), by omega⟩
theorem Good.pos (h : Good s) {x : Int × Str} (hx : x ∈ s.L) : 1 ≤ x.1 ∧ x.1 ≤ s.L.length := h.key.1 (List.mem_map.2 ⟨x, hx, rfl⟩)
theorem Good.uniq (h : Good s) {m : Int} (h1 : (n, b) ∈ s.L) (h2 : (m, b) ∈ s.L) : n = m := by
 have := nodup_inj h.vals _ h1 _ h2 rfl
 exact congrArg Prod.fst this
theorem Good.body (h : Good s) : bodyOf s.L n = some b ↔ (n, b) ∈ s.L := Mp.look_some (asc_nd h.asc)
theorem find_fold (L : List (Int × Str)) (b : Str) : ∀ (zs : List Int) (f : Int), (∀ z ∈ zs, 0 < z) → 0 ≤ f →
  (zs.foldl (findStep L b) f = f ∨ (zs.foldl (findStep L b) f ∈ zs ∧ bodyOf L (zs.foldl (findStep L b) f) = some b)) ∧ ((0 < f ∨ ∃ z ∈ zs, bodyOf L z = some b) → 0 < zs.foldl (findStep L b) f)
 | [], f, _, _ => ⟨.inl rfl, fun h => by
  rcases h with h | ⟨z, hz, _⟩
  ·exact h
  ·exact absurd hz List.not_mem_nil⟩
 |z :: zs, f, hz, hf => by
  have hz0 := hz z (by simp)
  rw [List.foldl_cons]
  by_cases hc : bodyOf L z = some b ∧ (f = 0 ∨ z < f)
  ·have e : findStep L b f z = z := if_pos hc
   rw [e]
   obtain ⟨i1, i2⟩ := find_fold L b zs z (fun y hy => hz y (by simp [hy])) (by omega)
   refine ⟨.inr ?_, fun _ => i2 (.inl hz0)⟩
   rcases i1 with i1 | ⟨i1, i3⟩
   ·rw [i1]; exact ⟨by simp, hc.1⟩
   ·exact ⟨by simp [i1], i3⟩
  ·have e : findStep L b f z = f := if_neg hc
   rw [e]
   obtain ⟨i1, i2⟩ := find_fold L b zs f (fun y hy => hz y (by simp [hy])) hf
   refine ⟨?_, ?_⟩
   ·rcases i1 with i1 | ⟨i1, i3⟩
    ·exact .inl i1
    ·exact .inr ⟨by simp [i1], i3⟩
   ·rintro (h | ⟨y, hy, h⟩)
    ·exact i2 (.inl h)
    ·rcases List.mem_cons.1 hy with rfl | hy
     ·refine i2 (.inl ?_)
      refine Classical.byContradiction (fun hn => hc ⟨h, .inl (by omega)⟩)
     ·exact i2 (.inr ⟨y, hy, h⟩)
theorem nums_in {L : List (Int × Str)} (h : (n, b) ∈ L) : n ∈ nums L (trP b) := List.mem_map.2 ⟨(n, b), List.mem_filter.2 ⟨h, by simp⟩, rfl⟩
theorem nums_of {L : List (Int × Str)} {k : TrK} (h : n ∈ nums L k) : ∃ c, (n, c) ∈ L := by
 obtain ⟨⟨a, c⟩, hy, rfl⟩ := List.mem_map.1 h
 exact ⟨c, (List.mem_filter.1 hy).1⟩
theorem Good.fold (h : Good s) (b : Str) : (findB s b = 0 ∨ (findB s b ∈ nums s.L (trP b) ∧ bodyOf s.L (findB s b) = some b)) ∧ ((0 < (0 : Int) ∨ ∃ z ∈ nums s.L (trP b), bodyOf s.L z = some b) → 0 < findB s b) := find_fold s.L b (nums s.L (trP b)) 0 (fun z hz => by
 obtain ⟨c, hc⟩ := nums_of hz
 have := (h.pos hc).1
 simp only at this
 omega) (Int.le_refl _)
theorem Good.found (h : Good s) (hm : (n, b) ∈ s.L) : findB s b = n := by
 obtain ⟨h1, h2⟩ := h.fold b
 have h3 := h2 (.inr ⟨n, nums_in hm, h.body.2 hm⟩)
 rcases h1 with h1 | ⟨-, h1⟩
 ·omega
 ·exact h.uniq (h.body.1 h1) hm
theorem Good.none (h : Good s) (hm : ∀ n, (n, b) ∉ s.L) : findB s b = 0 := by
 obtain ⟨h1, -⟩ := h.fold b
 rcases h1 with h1 | ⟨-, h1⟩
 ·exact h1
 ·exact absurd (h.body.1 h1) (hm _)
theorem Good.find_pos (h : Good s) : 0 < findB s b → (findB s b, b) ∈ s.L := fun hp => by
 obtain ⟨h1, -⟩ := h.fold b
 rcases h1 with h1 | ⟨-, h1⟩
 ·have h1 : findB s b = 0 := h1
  omega
 ·exact h.body.1 h1
theorem Good.add (h : Good s) (hf : ¬ 0 < findB s b) : (addB s s.next b).1 = ⟨s.next + 1, 0, s.L ++ [(s.next, b)]⟩ := by
 unfold addB
 rw [if_neg (by rw [h.key, h.next]; omega)]
 simp only [h.broken, BdP.mk.injEq, and_true, true_and]
 omega
theorem Good.put (h : Good s) (b : Str) : Good (putB s b) := by
 unfold putB
 by_cases hf : 0 < findB s b
 ·rw [if_pos hf]; exact h
 ·rw [if_neg hf, h.add hf]
  refine ⟨?_, ?_, ?_, rfl⟩
  ·show (s.L ++ [(s.next, b)]).map (·.1) = _
   rw [List.map_append, show s.L.map (·.1) = _ from h.num]
   show _ = (List.range (s.L ++ [(s.next, b)]).length).map _
   rw [List.length_append, List.length_singleton, List.range_succ, List.map_append]
   simp [h.next]
  ·show ((s.L ++ [(s.next, b)]).map (·.2)).Nodup
   rw [List.map_append, List.nodup_append]
   refine ⟨h.vals, by simp, fun x hx y hy e => ?_⟩
   simp only [List.map_cons, List.map_nil, List.mem_singleton] at hy
   subst hy
   subst e
   obtain ⟨⟨m, c⟩, hm, rfl⟩ := List.mem_map.1 hx
   exact hf (by have e := h.found hm; have := (h.pos hm).1; simp only at e this; rw [e]; omega)
  ·show s.next + 1 = ((s.L ++ [(s.next, b)]).length : Int) + 1
   rw [List.length_append, List.length_singleton, h.next]
   omega
theorem Good.putN (h : Good s) (b : Str) : (Bds.putN s b, b) ∈ (putB s b).L ∧ ∃ X, (putB s b).L = s.L ++ X := by
 unfold putB Bds.putN
 by_cases hf : 0 < findB s b
 ·rw [if_pos hf, if_pos hf]
  exact ⟨h.find_pos hf, [], by simp⟩
 ·rw [if_neg hf, if_neg hf, h.add hf]
  exact ⟨by simp, _, rfl⟩
end
def s0 : BdP := ⟨1, 0, []⟩
theorem good0 : Good s0 := ⟨rfl, List.nodup_nil, rfl, rfl⟩
def putAt (l : List Str) (j : Nat) : BdP := (l.take j).foldl putB s0
theorem putAt_succ {l : List Str} {j : Nat} (hj : j < l.length) : putAt l (j + 1) = putB (putAt l j) l[j] := by
 unfold putAt
 rw [List.take_succ_eq_append_getElem hj, List.foldl_append]
 rfl
theorem good_at (l : List Str) : ∀ j, j ≤ l.length → Good (putAt l j) ∧ (putAt l j).L.length ≤ j ∧ ∀ x ∈ (putAt l j).L, x.2 ∈ l.take j
 | 0, _ => ⟨good0, Nat.le_refl _, fun x hx => absurd hx List.not_mem_nil⟩
 |j + 1, hj => by
  obtain ⟨h1, h2, h3⟩ := good_at l j (by omega)
  rw [putAt_succ hj]
  refine ⟨h1.put _, ?_, ?_⟩
  ·unfold putB
   split
   ·omega
   ·rename_i hf
    rw [h1.add hf]
    simp only [List.length_append, List.length_singleton]
    omega
  ·have e := List.take_succ_eq_append_getElem hj
   unfold putB
   split
   ·intro x hx
    rw [e]
    exact List.mem_append_left _ (h3 x hx)
   ·rename_i hf
    rw [h1.add hf, e]
    intro x hx
    rcases List.mem_append.1 hx with hx | hx
    ·exact List.mem_append_left _ (h3 x hx)
    ·simp only [List.mem_singleton] at hx
     subst hx
     exact List.mem_append_right _ (by simp)
/-- the numbers that Put answers -/
def putNs (l : List Str) : List Int := (List.range l.length).map fun j => putN (putAt l j) (l.getD j [])
end Go.Proofs.YtklbemkafdccgaaGreat.Bds

/- bodies, plain: what Keep leaves. -/
namespace Go.Proofs.YtklbemkafdccgaaGreat.Bds
/-- is a body kept? -/
def inB (next : Int) (l : List Int) (x : Int × Str) : Bool := decide (x.1 ∈ l) || !(decide (x.1 < next - 1) || decide (0 < x.2.length))
def stayB (s : BdP) (l : List Int) : List (Int × Str) := s.L.filter (inB s.next l)
def lastB (M : List (Int × Str)) : Int := (M.getLast?.map (·.1)).getD 0
/-- what Keep writes: the bodies that stay, and one without bytes for the last number -/
def fullB (s : BdP) (l : List Int) : List (Int × Str) := if lastB (stayB s l) < s.next - 1 then stayB s l ++ [(s.next - 1, [])] else stayB s l
def outB (s : BdP) (l : List Int) : Nat := s.L.length - (stayB s l).length
theorem stay_step {L : List (Int × Str)} {p : Int × Str → Bool} {j : Nat} (hj : j < L.length) : (L.take (j + 1)).filter p = (L.take j).filter p ++ (if p L[j] = true then [L[j]] else []) := by
 rw [List.take_succ_eq_append_getElem hj, List.filter_append]
 congr 1
 by_cases h : p L[j] = true
 ·simp [h]
 ·simp [h]
theorem lastB_snoc (M : List (Int × Str)) (x : Int × Str) : lastB (M ++ [x]) = x.1 := by
 unfold lastB
 rw [List.getLast?_append]
 rfl
theorem framesB_snoc (M : List (Int × Str)) (x : Int × Str) : framesB (M ++ [x]) = framesB M ++ frB x := by
 unfold framesB
 rw [List.flatMap_append]
 simp
theorem frB_len {x : Int × Str} {N : Nat} (h : x.2.length ≤ N) (hN : N ≤ 3000) : (frB x).length ≤ 7000 := by
 unfold frB Rcd.frmL
 split
 ·rename_i hc
  unfold Frm.wrapL
  split
  ·have h1 := (Frm.veil_len (Frm.body (bdRec x.1 x.2).kind.toNat (Rcd.payL (bdRec x.1 x.2)))).2
   rw [Frm.body_len, Rcd.payL_size hc] at h1
   have := Rcd.sizeK_le (bdRec x.1 x.2).kind
   have hd : (bdRec x.1 x.2).data = x.2 := rfl
   simp only [List.length_cons]
   rw [hd] at h1
   omega
  ·simp
 ·simp
theorem framesB_len : ∀ (M : List (Int × Str)), (∀ x ∈ M, x.2.length ≤ 3000) → (framesB M).length ≤ 7000 * M.length
 | [], _ => by simp [framesB]
 |x :: M, h => by
  have h1 := frB_len (h x (by simp)) (Nat.le_refl 3000)
  have h2 := framesB_len M (fun y hy => h y (by simp [hy]))
  unfold framesB at h2 ⊢
  rw [List.flatMap_cons, List.length_append, List.length_cons]
  omega
theorem framesB_app (M N : List (Int × Str)) : framesB (M ++ N) = framesB M ++ framesB N := by unfold framesB; rw [List.flatMap_append]
theorem framesB_sub {p : Int × Str → Bool} : ∀ M : List (Int × Str), (framesB (M.filter p)).length ≤ (framesB M).length
 | [] => by simp
 |x :: M => by
  have ih := framesB_sub (p := p) M
  rw [List.filter_cons]
  unfold framesB at ih ⊢
  split <;> simp only [List.flatMap_cons, List.length_append] <;> omega
def AscB (M : List (Int × Str)) : Prop := (M.map (·.1)).Pairwise (· < ·)
theorem AscB.filter {M : List (Int × Str)} (h : AscB M) (p : Int × Str → Bool) : AscB (M.filter p) := by
 unfold AscB at h ⊢
 rw [List.pairwise_map] at h ⊢
 exact h.filter _
theorem lastB_le {M : List (Int × Str)} (h : AscB M) : ∀ x ∈ M, x.1 ≤ lastB M := by
 rcases List.eq_nil_or_concat M with rfl | ⟨M', y, rfl⟩
 ·exact fun x hx => absurd hx List.not_mem_nil
 ·intro x hx
  rw [List.concat_eq_append] at h hx ⊢
  rw [lastB_snoc]
  rcases List.mem_append.1 hx with hx | hx
  ·unfold AscB at h
   rw [List.pairwise_map, List.pairwise_append] at h
   have := h.2.2 x hx y (by simp)
   omega
  ·rw [List.mem_singleton.1 hx]
   exact Int.le_refl _
theorem lastB_of (M : List (Int × Str)) : (M = [] ∧ lastB M = 0) ∨ ∃ x ∈ M, lastB M = x.1 := by
 rcases List.eq_nil_or_concat M with rfl | ⟨M', y, rfl⟩
 ·exact .inl ⟨rfl, rfl⟩
 ·rw [List.concat_eq_append]
  exact .inr ⟨y, by simp, lastB_snoc _ _⟩
theorem nextOf_snoc (M : List (Int × Str)) (x : Int × Str) : nextOf (M ++ [x]) = max (nextOf M) (x.1 + 1) := by
 unfold nextOf
 rw [List.foldl_append]
 rfl
theorem nextOf_le {c : Int} (hc : 1 ≤ c) : ∀ (M : List (Int × Str)) (n : Int), n ≤ c → (∀ x ∈ M, x.1 + 1 ≤ c) → M.foldl (fun n x => max n (x.1 + 1)) n ≤ c
 | [], n, hn, _ => hn
 |x :: M, n, hn, h => by
  have := h x (by simp)
  rw [List.foldl_cons]
  exact nextOf_le hc M _ (by show max n (x.1 + 1) ≤ c; omega) (fun y hy => h y (by simp [hy]))
theorem nextOf_asc {M : List (Int × Str)} (h : AscB M) (hp : ∀ x ∈ M, 1 ≤ x.1) (hM : M ≠ []) : nextOf M = lastB M + 1 := by
 rcases List.eq_nil_or_concat M with rfl | ⟨M', y, rfl⟩
 ·exact absurd rfl hM
 ·have hl := lastB_le h
  rw [List.concat_eq_append] at h hp hl ⊢
  rw [lastB_snoc] at hl ⊢
  rw [nextOf_snoc]
  have hy := hp y (by simp)
  have : nextOf M' ≤ y.1 + 1 := nextOf_le (by omega) M' 1 (by omega) (fun x hx => by have := hl x (by simp [hx]); omega)
  omega
/-- a store whose numbers rise, the last one below the next -/
structure Up (s : BdP) : Prop where
 asc : AscB s.L
 pos : ∀ x ∈ s.L, 1 ≤ x.1 ∧ x.1 < s.next
 nx : 1 ≤ s.next ∧ s.next ≤ 2147483648
 top : s.L ≠ [] → lastB s.L = s.next - 1
section
variable {s : BdP} {l : List Int}
theorem Good.up (h : Good s) (hl : s.L.length ≤ 1000000) : Up s := ⟨h.asc, fun x hx => by have := h.pos hx; rw [h.next]; omega, by rw [h.next]; omega, fun hL => by
 have hn := List.length_pos_iff.2 hL
 have hk : (s.L.length : Int) ∈ keysB s := h.key.2 ⟨by omega, Int.le_refl _⟩
 obtain ⟨x, hx, e⟩ := List.mem_map.1 hk
 have h1 := lastB_le h.asc x hx
 rw [h.next]
 rcases lastB_of s.L with ⟨h0, -⟩ | ⟨y, hy, h2⟩
 ·exact absurd h0 hL
 ·have := h.pos hy
  omega⟩
theorem stay_mem {x : Int × Str} : x ∈ stayB s l ↔ x ∈ s.L ∧ inB s.next l x = true := List.mem_filter
theorem Up.full (h : Up s) (hL : s.L ≠ []) : AscB (fullB s l) ∧ (∀ x ∈ fullB s l, 1 ≤ x.1 ∧ x.1 < s.next) ∧ lastB (fullB s l) = s.next - 1 ∧ (∀ x, x ∈ fullB s l ↔ x ∈ stayB s l ∨ x = (s.next - 1, []) ∧ lastB (stayB s l) < s.next - 1) := by
 have ha : AscB (stayB s l) := h.asc.filter _
 have hp : ∀ x ∈ stayB s l, 1 ≤ x.1 ∧ x.1 < s.next := fun x hx => h.pos x (stay_mem.1 hx).1
 have hn : 2 ≤ s.next := by
  obtain ⟨y, hy⟩ := List.exists_mem_of_ne_nil _ hL
  have := h.pos y hy
  omega
 unfold fullB
 split
 ·rename_i hlt
  refine ⟨?_, ?_, lastB_snoc _ _, fun x => ?_⟩
  ·unfold AscB at ha ⊢
   rw [List.map_append, List.pairwise_append]
   refine ⟨ha, by simp, fun a hx b hb => ?_⟩
   obtain ⟨x, hx2, rfl⟩ := List.mem_map.1 hx
   have h1 := lastB_le (M := stayB s l) ha x hx2
   simp only [List.map_cons, List.map_nil, List.mem_singleton] at hb
   omega
  ·intro x hx
   rcases List.mem_append.1 hx with hx | hx
   ·exact hp x hx
   ·rw [List.mem_singleton.1 hx]
    simp only
    omega
  ·rw [List.mem_append, List.mem_singleton]
   constructor
   ·rintro (h | h)
    ·exact .inl h
    ·exact .inr ⟨h, hlt⟩
   ·rintro (h | h)
    ·exact .inl h
    ·exact .inr h.1
 ·rename_i hlt
  refine ⟨ha, hp, ?_, fun x => ⟨.inl, ?_⟩⟩
  ·rcases lastB_of (stayB s l) with ⟨-, h0⟩ | ⟨x, hx, h0⟩
   ·omega
   ·have := hp x hx
    omega
  ·rintro (h | h)
   ·exact h
   ·exact absurd h.2 hlt
/-- the store behind Keep -/
def keptB (s : BdP) (l : List Int) : BdP := ⟨s.next, 0, fullB s l⟩
theorem Up.next (h : Up s) (hL : s.L ≠ []) : nextOf (fullB s l) = s.next := by
 obtain ⟨h1, h2, h3, -⟩ := h.full (l := l) hL
 rw [nextOf_asc h1 (fun x hx => (h2 x hx).1) (fun e => by
  rw [e] at h3
  obtain ⟨y, hy⟩ := List.exists_mem_of_ne_nil _ hL
  have := h.pos y hy
  have h3 : (0 : Int) = s.next - 1 := h3
  omega), h3]
 omega
theorem Up.ok (h : Up s) (hb : ∀ x ∈ s.L, x.2.length ≤ 32768) (hL : s.L ≠ []) : BdsOk (fullB s l) := by
 obtain ⟨h1, h2, -, h4⟩ := h.full (l := l) hL
 have := h.nx
 refine ⟨fun x hx => ⟨(h2 x hx).1, by have := (h2 x hx).2; omega, ?_⟩, asc_nd h1⟩
 rcases (h4 x).1 hx with hx | ⟨rfl, -⟩
 ·exact hb x (stay_mem.1 hx).1
 ·simp
theorem Up.load (h : Up s) (hb : ∀ x ∈ s.L, x.2.length ≤ 32768) (hL : s.L ≠ []) : loadF (Rcd.fndL (Frm.scanR (framesB (fullB s l))).1) (framesB (fullB s l)).length = keptB s l := by
 rw [load_frames (h.ok hb hL), h.next hL]
 rfl
theorem Up.kept (h : Up s) (hL : s.L ≠ []) : Up (keptB s l) := by
 obtain ⟨h1, h2, h3, -⟩ := h.full (l := l) hL
 exact ⟨h1, h2, h.nx, fun _ => h3⟩
theorem Up.again (h : Up s) (hL : s.L ≠ []) : outB (keptB s l) l = 0 := by
 obtain ⟨-, -, -, h4⟩ := h.full (l := l) hL
 unfold outB
 have e : stayB (keptB s l) l = (keptB s l).L := by
  refine List.filter_eq_self.2 (fun x hx => ?_)
  rcases (h4 x).1 hx with hx | ⟨rfl, -⟩
  ·exact (stay_mem.1 hx).2
  ·show inB s.next l (s.next - 1, []) = true
   simp [inB]
 rw [e]
 omega
theorem Up.body (h : Up s) {n : Int} {b : Str} : bodyOf s.L n = some b ↔ (n, b) ∈ s.L := Mp.look_some (asc_nd h.asc)
theorem Up.len (h : Up s) (hL : s.L ≠ []) : (fullB s l).length ≤ s.L.length := by
 have hs : (stayB s l).length ≤ s.L.length := List.length_filter_le _ _
 unfold fullB
 split
 ·rename_i hlt
  have : (stayB s l).length < s.L.length := by
   refine Nat.lt_of_le_of_ne hs (fun e => ?_)
   have e2 : stayB s l = s.L := List.Sublist.eq_of_length List.filter_sublist e
   have := h.top hL
   rw [e2] at hlt
   omega
  simp only [List.length_append, List.length_singleton]
  omega
 ·exact hs
end
end Go.Proofs.YtklbemkafdccgaaGreat.Bds

/- bodies, plain: a store behind Keep. -/
namespace Go.Proofs.YtklbemkafdccgaaGreat.Bds
structure Aft (s s2 : BdP) (l : List Int) : Prop where
 next : s2.next = s.next
 broken : s2.broken = 0
 up : Up s2
 out : outB s2 l = 0
 len : s2.L.length ≤ s.L.length
 big : ∀ x ∈ s2.L, x.2.length ≤ 3000
 stay : ∀ x ∈ s.L, x.1 ∈ l → bodyOf s2.L x.1 = some x.2
 gone : ∀ x ∈ s.L, x.1 ∉ l → ((bodyOf s2.L x.1).getD []) = []
theorem in_of {next : Int} {l : List Int} {x : Int × Str} (h : inB next l x = true) (hx : x.1 ∉ l) : x.2 = [] := by
 unfold inB at h
 rw [decide_eq_false hx] at h
 simp only [Bool.false_or, Bool.not_eq_true', Bool.or_eq_false_iff, decide_eq_false_iff_not] at h
 exact List.eq_nil_of_length_eq_zero (by have := h.2; omega)
theorem in_yes {next : Int} {l : List Int} {x : Int × Str} (hx : x.1 ∈ l) : inB next l x = true := by
 unfold inB
 rw [decide_eq_true hx]
 rfl
section
variable {s : BdP} {l : List Int}
theorem aft_same (h : Up s) (hb : s.broken = 0) (hl : ∀ x ∈ s.L, x.2.length ≤ 3000) (ho : outB s l = 0) : Aft s s l := by
 have hall : ∀ x ∈ s.L, inB s.next l x = true := by
  have h1 : (stayB s l).length = s.L.length := by
   have h2 : (stayB s l).length ≤ s.L.length := List.length_filter_le _ _
   unfold outB at ho
   omega
  have h2 : stayB s l = s.L := List.Sublist.eq_of_length List.filter_sublist h1
  intro x hx
  rw [← h2] at hx
  exact (stay_mem.1 hx).2
 refine ⟨rfl, hb, h, ho, Nat.le_refl _, hl, fun x hx _ => h.body.2 hx, fun x hx hn => ?_⟩
 rw [(h.body (b := x.2)).2 hx]
 exact in_of (hall x hx) hn
theorem aft_kept (h : Up s) (hl : ∀ x ∈ s.L, x.2.length ≤ 3000) (hL : s.L ≠ []) : Aft s (keptB s l) l := by
 obtain ⟨h1, h2, h3, h4⟩ := h.full (l := l) hL
 have hk := h.kept (l := l) hL
 refine ⟨rfl, rfl, hk, h.again hL, h.len hL, fun x hx => ?_, fun x hx hm => ?_, fun x hx hm => ?_⟩
 ·rcases (h4 x).1 hx with hx | ⟨rfl, -⟩
  ·exact hl x (stay_mem.1 hx).1
  ·exact Nat.zero_le _
 ·exact hk.body.2 ((h4 _).2 (.inl (stay_mem.2 ⟨hx, in_yes hm⟩)))
 ·cases hb : bodyOf (keptB s l).L x.1 with
  |none => rfl
  |some b =>
   have hm2 := hk.body.1 hb
   rcases (h4 _).1 hm2 with hm3 | ⟨e, -⟩
   ·exact in_of (stay_mem.1 hm3).2 hm
   ·simp only [Prod.mk.injEq] at e
    exact e.2
end
end Go.Proofs.YtklbemkafdccgaaGreat.Bds
