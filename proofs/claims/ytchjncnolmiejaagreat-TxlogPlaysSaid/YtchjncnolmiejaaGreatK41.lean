/- Several texts in one: RfWrite, RfSync, RfNew0, RfTwo, SfSwap, SfAwake. -/
import Derived.Test.YtchjncnolmiejaaGreatK40
import Derived.Test.YtchjncnolmiejaaGreatK35
import Derived.Test.YtchjncnolmiejaaGreatFrameRef
/- The document's disk: write. -/
namespace Go.Proofs.YtchjncnolmiejaaGreat
open Go.RowKit
namespace Rf
open Vd
theorem writok : ElemOkS Tryz.prog 91 127 2 24 := elemOkS (z := .agg #[.int .i64 0, .string (bstr [])]) Tryz.underlying91 (by kernel_rfl) rfl
theorem bytes_mem {files : List RFil} {l : Nms} {p : Str × Nat} (h : p ∈ l) : fLen files p.2 ≤ bytesR files l := by
 induction l with
 | nil => simp at h
 | cons q l ih =>
  have e : bytesR files (q :: l) = fLen files q.2 + bytesR files l := by simp [bytesR, fLen]
  rcases List.mem_cons.1 h with rfl | h
  ·omega
  ·have := ih h; omega
theorem filAt_get {d : RDsk} {i : Nat} (hi : i < d.files.length) : filAt d i = d.files[i] := by
 unfold filAt
 rw [List.getD_eq_getElem?_getD, List.getElem?_eq_getElem hi]
 rfl
theorem set_fit {d : RDsk} {k : Nat} (h : RFit d k) {i : Nat} {f : RFil} (h1 : f.waits.length ≤ k + 1) (h2 : f.now.length ≤ 1000000000 ∧ f.sure.length ≤ 1000000000) : RFit (setR d i f) (k + 1) :=
 {h.more (Nat.le_succ k) with
  f := by simpa [setR] using Nat.le_succ_of_le h.f
  p := fun x hx => by
   rcases List.mem_or_eq_of_mem_set hx with hx | rfl
   ·exact Nat.le_succ_of_le (h.p x hx)
   ·exact h1
  b := fun x hx => by
   rcases List.mem_or_eq_of_mem_set hx with hx | rfl
   ·exact h.b x hx
   ·exact h2
  is := fun p hp => by simpa [setR] using h.is p hp }
theorem write_fit {d : RDsk} {k : Nat} (h : RFit d k) {i : Nat} (hi : i < d.files.length) (hn : ∃ x, (x, i) ∈ d.now) {a : Nat} {b : Str} (ha : a ≤ d.files[i].now.length) (hs : ¬ d.cap - (usedR d : Int) < max 0 ((a : Int) + (b.length : Int) - (d.files[i].now.length : Int))) : RFit (setR d i (wroteR d.files[i] ⟨a, b⟩)) (k + 1) := by
 obtain ⟨x, hx⟩ := hn
 have hu := bytes_mem (files := d.files) hx
 have hf : fLen d.files i = d.files[i].now.length := by unfold fLen; rw [List.getElem?_eq_getElem hi]; rfl
 have hb := h.b _ (List.getElem_mem hi)
 have hp := h.p _ (List.getElem_mem hi)
 have hc := h.cap
 refine set_fit h (by simp [wroteR]; omega) ⟨?_, hb.2⟩
 show (overL d.files[i].now a b).length ≤ _
 rw [overL_len]
 unfold usedR at hs
 simp only at hu
 omega
theorem wrC_flat (l : List Pat) : ∀ u ∈ l.flatMap wrC, u.oneCell' = true := fun u hu => by
 obtain ⟨p, -, hp⟩ := List.mem_flatMap.1 hu
 simp [wrC] at hp
 rcases hp with rfl | rfl <;> rfl
/-- a row of bytes doesn't lie in a block of other cells -/
theorem row_apart {w w' : World} {v : Value} {l : List UInt8} (h : Row w v (l.map u8v)) {m : Nat} {t : TypeId} {cs : Array Value} (hB : Blk w m t cs) (hc : ∀ x ∈ cs.toList, ∀ n, x ≠ .int .u8 n) (hm : Mods (· = m) w w') : Row w' v (l.map u8v) := by
 rcases h with h | ⟨b, off, cap, hv, h1, h2, h3⟩
 ·exact .inl h
 ·refine .inr ⟨b, off, cap, hv, h1, h2, fun i x hx => ?_⟩
  have hh := h3 i x hx
  refine hm.cell hh (fun e => ?_)
  have e : b = m := e
  subst e
  rw [hB.cell] at hh
  have hx2 := List.mem_of_getElem? hx
  obtain ⟨y, -, hy⟩ := List.mem_map.1 hx2
  exact hc x (Array.mem_toList_iff.2 (Array.mem_of_getElem? hh)) y.toNat hy.symm
section
variable {w : World} {M : Nat → Prop} {m : Nat} {d : RDsk} {k : Nat}
theorem RefIn.bytes {fv nv sv wv : Value} {fw : List Value} (h : RefIn w M m fv nv sv wv fw d k) {w' : World} (hm : Mods (· = m) w w') {v : Value} {l : List UInt8} (hr : Row w v (l.map u8v)) : Row w' v (l.map u8v) := by
 obtain ⟨_, _, e1, -, -⟩ := Frm.ownsRow_form h.files
 obtain ⟨_, _, e2, -, -⟩ := Frm.ownsRow_form h.now
 obtain ⟨_, _, e3, -, -⟩ := Frm.ownsRow_form h.sure
 obtain ⟨_, _, e4, -, -⟩ := Frm.ownsRow_form h.turns
 refine row_apart hr h.blk (fun x hx n => ?_) hm
 rw [e1, e2, e3, e4] at hx
 simp [rdA] at hx
 rcases hx with rfl | rfl | rfl | rfl | rfl | rfl | rfl | rfl | rfl | rfl <;> simp
set_option maxRecDepth 100000 in
set_option maxHeartbeats 4000000 in
theorem write_r (h : RefAt w M m d k) (hk : k ≤ 100000) {i : Nat} (hi : i < d.files.length) (hn : ∃ x, (x, i) ∈ d.now) {a : Nat} {b : Str} {bv : Value} (hb : Row w bv (b.map u8v)) (hbl : b.length ≤ 1000000000) (ha : a ≤ d.files[i].now.length) : Calls Tryz.prog 135 #[.pointer (some ⟨m, 0, none⟩), .int .i64 (i : Int), .int .i64 (a : Int), bv] w (RDid w M m (writeR d i ⟨a, b⟩) (k + 1)) := by
 have HR := Lib.hid h
 have HX0 : Hid (writeR d i ⟨a, b⟩ = if d.cap - (usedR d : Int) < max 0 ((a : Int) + (b.length : Int) - (d.files[i].now.length : Int)) then (d, 10) else (setR d i (wroteR d.files[i] ⟨a, b⟩), 0)) := Lib.hid (by unfold writeR; rw [filAt_get hi]; rfl)
 obtain ⟨fv, nv, sv, wv, fw, h⟩ := h
 have H := Lib.hid h
 have HBV := Lib.hid hb
 have hfl : d.files.length ≤ 100000 := Nat.le_trans h.fit.f hk
 have hcap := h.fit.cap
 have hfb := h.fit.b _ (List.getElem_mem hi)
 have hwl : d.files[i].waits.length ≤ 100000 := Nat.le_trans (h.fit.p _ (List.getElem_mem hi)) hk
 have HWO := Lib.hid (h.waits i (by rw [h.len]; exact hi) hi)
 obtain ⟨pw, cw, hpw, -, -⟩ := Frm.ownsRow_form HWO.out
 obtain ⟨c0, -, -, -, c4, -⟩ := h.cells
 obtain ⟨bf, of, cf, hfv, hrg⟩ := h.file hi
 subst hfv
 have HSW := Lib.hid (show ∀ y, (Value.slice pw d.files[i].waits.length cw).ownBlock = some y → M y from by rw [← hpw]; exact h.sw _ (List.getElem_mem _))
 rw [hpw] at hrg HWO
 clear hpw
 have HRG := Lib.hid hrg
 have hub : usedR d ≤ 100000000000000 := Nat.le_trans (bytes_le (fun x hx => (h.fit.b x hx).1) d.now) (Nat.le_trans (Nat.mul_le_mul_right _ (Nat.le_trans h.fit.n hk)) (by decide))
 have HFT := Lib.hid (fun hs => write_fit h.fit hi hn (b := b) ha hs)
 obtain ⟨pb, cb, rfl, -, -⟩ := hb.formB
 have hcm := h.blk.cell 4
 clear h hb hrg hn
 obtain ⟨F, hF⟩ : ∃ F, F = d.files.length := ⟨_, rfl⟩
 have HFE := Lib.hid hF
 obtain ⟨f, hf⟩ : ∃ f, f = d.files[i] := ⟨_, rfl⟩
 have HFI := Lib.hid hf
 rw [← hf] at HX0 HRG HWO HSW HFT hfb hwl ha
 rw [← hF] at c0 hfl
 have hiF : (i : Int) < (F : Int) := by omega
 clear hf hF
 obtain ⟨U, hU⟩ : ∃ U, U = usedR d := ⟨_, rfl⟩
 have HU := Lib.hid hU
 rw [← hU] at HX0 hub
 clear hU
 obtain ⟨fnow, fsure, fwt⟩ := f
 simp only at hfb hwl ha HX0 HRG HWO HSW
 obtain ⟨nw, hnw⟩ : ∃ nw, nw = fwt.length := ⟨_, rfl⟩
 have HNW := Lib.hid hnw
 rw [← hnw] at HRG HWO HSW hwl
 clear hnw
 have hn1 := bstr_size fnow
 go_enter Tryz.func135, Tryz.ntmps135
 go_upto_region 2 with (refine wpList_ldR rfl filM HRG.out _ rfl rfl ?_)
 generalize hW : World.alloc w _ = w1
 have HK1 := Lib.hid (show Keeps w w1 from by rw [← hW]; exact (Keeps.refl _).alloc _)
 have HB1 := Lib.hid (show Blk w1 w.heap.size 93 #[.string (bstr fnow), .string (bstr fsure), .slice pw nw cw] from by rw [← hW]; exact Blk.new _ _ _ rfl)
 clear hW c0
 obtain ⟨q, hq⟩ : ∃ q, q = w.heap.size := ⟨_, rfl⟩
 rw [← hq] at HB1 ⊢
 have HQ := Lib.hid hq
 clear hq
 have q0 : w1.cell? ⟨q, 0, none⟩ = some (.string (bstr fnow)) := by rw [HB1.out.cell]; rfl
 obtain ⟨gr, hgr⟩ : ∃ gr : Int, gr = max 0 ((a : Int) + (b.length : Int) - (fnow.length : Int)) := ⟨_, rfl⟩
 have hgl : 0 ≤ gr ∧ gr ≤ 2000000000 := by omega
 have HG := Lib.hid hgr
 rw [← hgr] at HX0
 clear hgr
 have hif : (if (fnow.length : Int) < (a : Int) + (b.length : Int) then (a : Int) + (b.length : Int) - (fnow.length : Int) else 0) = gr := by
  rw [HG.out]
  split <;> omega
 have HIF := Lib.hid hif
 clear hif
 go_upto_region 3 with fail
 rw [HIF.out]
 have HC4 := Lib.hid (keep1 HK1.out c4)
 have HR1 := Lib.hid (HR.out.keeps HK1.out)
 have HUS := Lib.hid (used_r (HR1.out.keeps (Keeps.refl w1).drew) (by omega))
 rw [← HU.out] at HUS
 have hsub : IntKind.i64.wrap (d.cap - (U : Int)) = d.cap - (U : Int) := by rw [IntKind.wrap_i64]; omega
 clear c4 q0
 by_cases hsp : d.cap - (U : Int) < gr
 ·have HX := Lib.hid (HX0.out.trans (if_pos hsp))
  have ht : decide (d.cap - (U : Int) < gr) = true := by simp; omega
  refine wp_region_noPanic ?_
  refine wp_region_held_drew (S := fun w' => Keeps (w1) w') (by kernel_rfl) ((Keeps.refl _).drew) (fun _ => ?_)
  have hHeld : Keeps (w1) (w1).drew := (Keeps.refl _).drew
  refine tq 0 28 ?_
  refine tq 1 29 ?_
  refine tq 2 30 ?_
  refine tq 3 31 ?_
  refine tq 4 32 ?_ (hy := fun w' hSw => by
   have hSw : Keeps _ w' := hSw
   have hx := keep1 hSw HC4.out
   clear hSw
   go_simp
   try with_reducible rfl)
  refine tq 5 33 ?_
  refine rd1 6 (fun K hK => ?_)
  go_simp
  refine (HUS.out).mono ?_
  rintro e w2 ⟨rfl, hk⟩
  have hb : Keeps _ w2 := hHeld.trans hk
  have HK2 := Lib.hid hk
  go_wp2_with fail
  refine bk1 hK hb ?_
  clear hK K hHeld hb hk
  intro hHeld
  refine tq 7 35 ?_
  refine tq 8 36 ?_
  refine wpAnyH_done (by kernel_rfl) ?_ _
  refine NoPanic.normal ?_
  have HKF := Lib.hid (((HK1.out.trans (Keeps.refl w1).drew).trans HK2.out).trans hHeld)
  clear hHeld
  go_wp2_with fail
  go_ret
  rw [HX.out]
  exact ⟨rfl, ((HR.out.keeps HKF.out).wide (fun y hy => .inl hy)).more (by omega), Mods.of_keeps HKF.out⟩
 ·have HX := Lib.hid (HX0.out.trans (if_neg hsp))
  have HFU := Lib.hid (HFT.out (by rw [← HU.out, ← HG.out]; exact hsp))
  have ht : decide (d.cap - (U : Int) < gr) = false := by simp; omega
  refine wp_region_noPanic ?_
  refine wp_region_held_drew (S := fun w' => Keeps (w1) w') (by kernel_rfl) ((Keeps.refl _).drew) (fun _ => ?_)
  have hHeld : Keeps (w1) (w1).drew := (Keeps.refl _).drew
  refine tq 0 28 ?_
  refine tq 1 29 ?_
  refine tq 2 30 ?_
  refine tq 3 31 ?_
  refine tq 4 32 ?_ (hy := fun w' hSw => by
   have hSw : Keeps _ w' := hSw
   have hx := keep1 hSw HC4.out
   clear hSw
   go_simp
   try with_reducible rfl)
  refine tq 5 33 ?_
  refine rd1 6 (fun K hK => ?_)
  go_simp
  refine (HUS.out).mono ?_
  rintro e w2 ⟨rfl, hk⟩
  have hb : Keeps _ w2 := hHeld.trans hk
  have HK2 := Lib.hid hk
  go_wp2_with fail
  refine bk1 hK hb ?_
  clear hK K hHeld hb hk
  intro hHeld
  refine tq 7 35 ?_
  refine tq 8 36 ?_
  refine wpAnyH_done (by kernel_rfl) ?_ _
  refine NoPanic.normal ?_
  have HKF := Lib.hid (((Keeps.refl w1).drew.trans HK2.out).trans hHeld)
  clear hHeld hsub ht hsp HUS HC4 HFT
  have HKW := Lib.hid (HK1.out.trans HKF.out)
  have HBf := Lib.hid (HB1.out.keeps HKF.out)
  have HW2 := Lib.hid (Frm.ownsRow_keeps HWO.out HKW.out)
  have q2 : w2.cell? ⟨q, 2, none⟩ = some (.slice pw nw cw) := by rw [HBf.out.cell]; rfl
  go_upto_region 7 with (at_builtin; go_loud (refine wpList_apps (base := w2.heap.size) writok (by decide) rfl _ _ rfl (.slice none 0 0) (.slice pw nw cw) 0 nw [] (fwt.flatMap wrC) rfl rfl (World.ownsRow_nil _ _ _ 2) (rowS_of HW2.out) (wrC_flat _) (by omega) (by decide) (Nat.le_refl _) ?_; intro v3 w3 ho3 hg3 hf3; obtain ⟨p3, c3, rfl, -, -⟩ := Frm.ownsRow_form ho3))
  have HO3 := Lib.hid (show w3.ownsRow w2.heap.size 127 2 (.slice p3 nw c3) nw (fwt.flatMap wrC) from by simpa using ho3)
  have HK3 := Lib.hid (show Keeps w2 w3 from (Keeps.refl w2).grown hg3 (fun k hk => by simp [Value.ownBlock] at hk))
  have HB3 := Lib.hid (HBf.out.keeps HK3.out)
  have HKW3 := Lib.hid (HKW.out.trans HK3.out)
  have HI2 := Lib.hid (H.out.apart (T := fun _ => False) (Mods.of_keeps HKW.out) (fun _ _ h => h))
  have HBV2 := Lib.hid (HBV.out.keeps HKW.out)
  have HQM := Lib.hid (show q ≠ m from fun e => by have := H.out.blk.lt; have := HQ.out; omega)
  clear ho3 hg3 hf3 q2
  have HOd := Lib.hid (Frm.ownsRow_keeps HO3.out (Keeps.refl w3).drew)
  have HKX := Lib.hid (HK3.out.trans (Keeps.refl w3).drew)
  have hs32 := HK3.out.size
  have hsw2 := HKW.out.size
  refine wp_region_noPanic ?_
  refine wp_region_held_drew (S := fun w' => Mods (· = m) w2 w') (by kernel_rfl) ((Mods.of_keeps HK3.out).drew) (fun _ => ?_)
  have hHeld : Mods (· = m) w2 (w3).drew := (Mods.of_keeps HK3.out).drew
  generalize World.drew w3 = xs at *
  refine tq 0 41 ?_
  refine tq 1 42 ?_
  refine tq 2 43 ?_
  refine tq 3 44 ?_ (hy := fun w' hSw => by
   have hSw : Mods (· = m) w2 w' := hSw
   have hBq := HBf.out.mods hSw (fun e => HQM.out e)
   have hx0 : World.cell? w' ⟨q, 0, none⟩ = some (.string (bstr fnow)) := by rw [hBq.cell]; rfl
   clear hSw
   go_simp
   try with_reducible rfl)
  refine tq 4 45 ?_
  refine tq 5 46 ?_
  refine tq 6 47 ?_ (hy := fun w' hSw => by
   have hSw : Mods (· = m) w2 w' := hSw
   have hc := Frm.str_at' (HI2.out.bytes hSw HBV2.out)
   clear hSw
   go_simp
   try with_reducible rfl)
  refine tq 8 49 ?_
  refine tq 9 50 ?_ (hy := fun w' hSw => by
   have hSw : Mods (· = m) w2 w' := hSw
   have hBq := HBf.out.mods hSw (fun e => HQM.out e)
   have hx0 : World.cell? w' ⟨q, 1, none⟩ = some (.string (bstr fsure)) := by rw [hBq.cell]; rfl
   clear hSw
   go_simp
   try with_reducible rfl)
  refine tq 10 51 ?_
  refine tq 11 52 ?_
  refine tq 12 53 ?_
  refine tq 13 54 ?_ (hy := fun w' hSw => by
   have hSw : Mods (· = m) w2 w' := hSw
   have hc := Frm.str_at' (HI2.out.bytes hSw HBV2.out)
   clear hSw
   go_simp
   try with_reducible rfl)
  refine tq 14 55 ?_
  refine wpAnyH_ready (rs := [7, 15]) (by kernel_rfl) (by simp) ?_
  refine AllReadyH.cons (o := _) rfl (fun K hK => ?_) ?_
  ·go_simp
   refine (over_r _ fnow b a (by omega) (by omega) (by omega)).mono ?_
   rintro e x7 ⟨rfl, hk7⟩
   have HOd := Lib.hid (Frm.ownsRow_keeps HOd.out hk7)
   have HKX := Lib.hid (HKX.out.trans hk7)
   have hb := hHeld.trans (Mods.of_keeps (S := (· = m)) hk7) (fun y hy _ => hy)
   clear hk7
   go_wp2_with fail
   refine bkm hK hb ?_
   clear hK K hHeld
   have hHeld : Mods (· = m) w2 x7 := hb
   clear hb
   refine rd1 15 (fun K hK => ?_)
   go_simp
   obtain ⟨b8, hb8⟩ : ∃ z, z = (World.heap x7).size := ⟨_, rfl⟩
   have HB8 : Hid (Blk (World.alloc x7 (.cells #[.int .i64 (a : Int), .string (bstr b)] 127)) b8 127 #[.int .i64 (a : Int), .string (bstr b)]) := Lib.hid (Blk.new _ _ _ hb8)
   have HOd := Lib.hid (Frm.ownsRow_keeps HOd.out ((Keeps.refl _).alloc (.cells #[.int .i64 (a : Int), .string (bstr b)] 127)))
   have HKX := Lib.hid (HKX.out.alloc (.cells #[.int .i64 (a : Int), .string (bstr b)] 127))
   have hb := hHeld.alloc (.cells #[.int .i64 (a : Int), .string (bstr b)] 127)
   have HBB := Lib.hid hb8
   clear hb8
   generalize World.alloc x7 (.cells #[.int .i64 (a : Int), .string (bstr b)] 127) = x15 at *
   refine bkm hK hb ?_
   clear hK K hHeld
   have hHeld : Mods (· = m) w2 x15 := hb
   clear hb
   refine rd1 16 (fun K hK => ?_)
   refine step_appF (base := w2.heap.size) writok (by decide) rfl _ _ rfl (.slice p3 nw c3) nw 1 1 ⟨b8, 0, none⟩ (fwt.flatMap wrC) [.int .i64 (a : Int), .string (bstr b)] rfl (congrArg (fun g => Value.slice (some ⟨g, 0, none⟩) 1 1) HBB.out.symm) HOd.out rfl (fun j y hy => by rw [Go.WideShapes.add_plain, HB8.out.cell, Nat.zero_add]; simpa using hy) (by simp [Value.oneCell']) (by omega) (by decide) HKX.out.size ?_
   intro v16 x16 ho hg hf
   obtain ⟨p16, c16, rfl, -, -⟩ := Frm.ownsRow_form ho
   have HO16 := Lib.hid ho
   have HKX := Lib.hid (HKX.out.grown hg (Frm.ownsRow_base HOd.out))
   have hb := hHeld.grown hg (fun k hk hlt => by have := Frm.ownsRow_base HOd.out k hk; omega)
   clear ho hg hf HOd HB8
   show K (Act.put _ (some 57) _) x16
   refine bkm hK hb ?_
   clear hK K hHeld
   have hHeld : Mods (· = m) w2 x16 := hb
   clear hb
   refine tq 17 58 ?_
   refine rd1 18 (fun K hK => ?_)
   go_simp
   have HWI := Lib.hid (with_r (M := More M w x16) (((HR.out.keeps (HKW.out.trans HKX.out)).wide (fun y hy => .inl hy)).more (Nat.le_succ k)) (by omega) hi (wroteR ⟨fnow, fsure, fwt⟩ ⟨a, b⟩) (.slice p16 (nw + 1) c16) (by have h0 := ownsRow_low HO16.out (Nat.zero_le _); rw [show (wroteR ⟨fnow, fsure, fwt⟩ ⟨a, b⟩).waits.length = nw + 1 from by simp [wroteR, HNW.out], show (wroteR ⟨fnow, fsure, fwt⟩ ⟨a, b⟩).waits.flatMap wrC = fwt.flatMap wrC ++ [.int .i64 (a : Int), .string (bstr b)] from by simp [wroteR, wrC]]; exact h0) (fun y hy => .inr ⟨by have := Frm.ownsRow_base HO16.out y hy; omega, (owns_ty HO16.out hy).lt⟩) HFU.out)
   unfold filA wroteR at HWI
   refine HWI.out.mono ?_
   rintro e xF ⟨rfl, h6, hm6⟩
   have H6 := Lib.hid h6
   have hb := hHeld.trans hm6 (fun y hy _ => hy)
   have hsX := HKX.out.size
   have hsF := hm6.size
   clear h6 hm6 HWI
   go_wp2_with fail
   refine bkm hK hb ?_
   clear hK K hHeld
   have hHeld : Mods (· = m) w2 xF := hb
   clear hb
   refine wpAnyH_done (by kernel_rfl) ?_ _
   refine NoPanic.normal ?_
   go_wp2_with fail
   go_ret
   rw [HX.out]
   refine ⟨rfl, H6.out.wide (fun y hy => ?_), (Mods.of_keeps (S := (· = m)) HKW.out).trans hHeld (fun y hy _ => hy)⟩
   rcases hy with (hy | hy) | hy
   ·exact .inl hy
   ·exact .inr (by omega)
   ·exact .inr (by omega)
  refine AllReadyH.cons (o := _) rfl (fun K hK => ?_) ?_
  ·go_simp
   obtain ⟨b8, hb8⟩ : ∃ z, z = (World.heap xs).size := ⟨_, rfl⟩
   have HB8 : Hid (Blk (World.alloc xs (.cells #[.int .i64 (a : Int), .string (bstr b)] 127)) b8 127 #[.int .i64 (a : Int), .string (bstr b)]) := Lib.hid (Blk.new _ _ _ hb8)
   have HOd := Lib.hid (Frm.ownsRow_keeps HOd.out ((Keeps.refl _).alloc (.cells #[.int .i64 (a : Int), .string (bstr b)] 127)))
   have HKX := Lib.hid (HKX.out.alloc (.cells #[.int .i64 (a : Int), .string (bstr b)] 127))
   have hb := hHeld.alloc (.cells #[.int .i64 (a : Int), .string (bstr b)] 127)
   have HBB := Lib.hid hb8
   clear hb8
   generalize World.alloc xs (.cells #[.int .i64 (a : Int), .string (bstr b)] 127) = x15 at *
   refine bkm hK hb ?_
   clear hK K hHeld
   have hHeld : Mods (· = m) w2 x15 := hb
   clear hb
   refine rd1 7 (fun K hK => ?_)
   go_simp
   refine (over_r _ fnow b a (by omega) (by omega) (by omega)).mono ?_
   rintro e x7 ⟨rfl, hk7⟩
   have HOd := Lib.hid (Frm.ownsRow_keeps HOd.out hk7)
   have HKX := Lib.hid (HKX.out.trans hk7)
   have HB8 := Lib.hid (HB8.out.keeps hk7)
   have hb := hHeld.trans (Mods.of_keeps (S := (· = m)) hk7) (fun y hy _ => hy)
   clear hk7
   go_wp2_with fail
   refine bkm hK hb ?_
   clear hK K hHeld
   have hHeld : Mods (· = m) w2 x7 := hb
   clear hb
   refine rd1 16 (fun K hK => ?_)
   refine step_appF (base := w2.heap.size) writok (by decide) rfl _ _ rfl (.slice p3 nw c3) nw 1 1 ⟨b8, 0, none⟩ (fwt.flatMap wrC) [.int .i64 (a : Int), .string (bstr b)] rfl (congrArg (fun g => Value.slice (some ⟨g, 0, none⟩) 1 1) HBB.out.symm) HOd.out rfl (fun j y hy => by rw [Go.WideShapes.add_plain, HB8.out.cell, Nat.zero_add]; simpa using hy) (by simp [Value.oneCell']) (by omega) (by decide) HKX.out.size ?_
   intro v16 x16 ho hg hf
   obtain ⟨p16, c16, rfl, -, -⟩ := Frm.ownsRow_form ho
   have HO16 := Lib.hid ho
   have HKX := Lib.hid (HKX.out.grown hg (Frm.ownsRow_base HOd.out))
   have hb := hHeld.grown hg (fun k hk hlt => by have := Frm.ownsRow_base HOd.out k hk; omega)
   clear ho hg hf HOd HB8
   show K (Act.put _ (some 57) _) x16
   refine bkm hK hb ?_
   clear hK K hHeld
   have hHeld : Mods (· = m) w2 x16 := hb
   clear hb
   refine tq 17 58 ?_
   refine rd1 18 (fun K hK => ?_)
   go_simp
   have HWI := Lib.hid (with_r (M := More M w x16) (((HR.out.keeps (HKW.out.trans HKX.out)).wide (fun y hy => .inl hy)).more (Nat.le_succ k)) (by omega) hi (wroteR ⟨fnow, fsure, fwt⟩ ⟨a, b⟩) (.slice p16 (nw + 1) c16) (by have h0 := ownsRow_low HO16.out (Nat.zero_le _); rw [show (wroteR ⟨fnow, fsure, fwt⟩ ⟨a, b⟩).waits.length = nw + 1 from by simp [wroteR, HNW.out], show (wroteR ⟨fnow, fsure, fwt⟩ ⟨a, b⟩).waits.flatMap wrC = fwt.flatMap wrC ++ [.int .i64 (a : Int), .string (bstr b)] from by simp [wroteR, wrC]]; exact h0) (fun y hy => .inr ⟨by have := Frm.ownsRow_base HO16.out y hy; omega, (owns_ty HO16.out hy).lt⟩) HFU.out)
   unfold filA wroteR at HWI
   refine HWI.out.mono ?_
   rintro e xF ⟨rfl, h6, hm6⟩
   have H6 := Lib.hid h6
   have hb := hHeld.trans hm6 (fun y hy _ => hy)
   have hsX := HKX.out.size
   have hsF := hm6.size
   clear h6 hm6 HWI
   go_wp2_with fail
   refine bkm hK hb ?_
   clear hK K hHeld
   have hHeld : Mods (· = m) w2 xF := hb
   clear hb
   refine wpAnyH_done (by kernel_rfl) ?_ _
   refine NoPanic.normal ?_
   go_wp2_with fail
   go_ret
   rw [HX.out]
   refine ⟨rfl, H6.out.wide (fun y hy => ?_), (Mods.of_keeps (S := (· = m)) HKW.out).trans hHeld (fun y hy _ => hy)⟩
   rcases hy with (hy | hy) | hy
   ·exact .inl hy
   ·exact .inr (by omega)
   ·exact .inr (by omega)
  exact AllReadyH.nil
/-- the name's file -/
theorem RefIn.named {fv nv sv wv : Value} {fw : List Value} (h : RefIn w M m fv nv sv wv fw d k) {x : Str} {i : Nat} (hl : Vd.look d.now x = some i) : i < d.files.length ∧ ∃ y, (y, i) ∈ d.now := by
 have hm := (look_mem h.fit.an).1 hl
 exact ⟨h.fit.is _ hm, _, hm⟩
theorem beginR_filAt (d : RDsk) (i : Nat) : filAt (beginR d).1 i = filAt d i := by unfold filAt; rw [(beginR_files d).1]
set_option maxRecDepth 100000 in
set_option maxHeartbeats 4000000 in
theorem rappend_r (h : RefAt w M m d k) (hk : k ≤ 90000) (x : Str) {b : Str} {bv : Value} (hb : Row w bv (b.map u8v)) (hbl : b.length ≤ 1000000000) : Calls Tryz.prog 94 #[.pointer (some ⟨m, 0, none⟩), .string (bstr x), bv] w (RDid w M m (appendR d x b) (k + 2)) := by
 have HB := Lib.hid (begin_r w h (by omega))
 have HX0 : Hid (appendR d x b = if (beginR d).2 ≠ 0 then beginR d else match Vd.look d.now x with | none => ((beginR d).1, 7) | some i => writeR (beginR d).1 i ⟨(filAt (beginR d).1 i).now.length, b⟩) := Lib.hid (by
  unfold appendR
  split
  ·rfl
  ·cases Vd.look d.now x with
   | none => rfl
   | some i => simp only [beginR_filAt])
 have HFI := Lib.hid (beginR_files d)
 have HBY := Lib.hid (fun (w' : World) (hm : Mods (· = m) w w') => show Row w' bv (b.map u8v) from by obtain ⟨_, _, _, _, _, hh⟩ := h; exact hh.bytes hm hb)
 obtain ⟨pb, cb, rfl, -, -⟩ := hb.formB
 clear h hb
 unfold RDid
 generalize beginR d = r at *
 obtain ⟨d1, er⟩ := r
 simp only at HB HX0 HFI
 go_enter Tryz.func94, Tryz.ntmps94
 go_wp2_with fail
 refine HB.out.mono ?_
 rintro e w1 ⟨rfl, h1, hm1⟩
 have H1 := Lib.hid h1
 have HM1 := Lib.hid hm1
 clear h1 hm1 HB
 by_cases he : er = 0
 ·subst he
  have HX1 := Lib.hid (HX0.out.trans (if_neg (by simp)))
  have HF := Lib.hid (rfind_r H1.out x)
  have HFR : Hid (findR d1.now x = match Vd.look d1.now x with | none => -1 | some i => (i : Int)) := Lib.hid rfl
  cases hl : Vd.look d1.now x with
  | none =>
   have HX := Lib.hid (show appendR d x b = (d1, 7) from by rw [HX1.out, ← HFI.out.2.1, hl])
   have hfr : findR d1.now x = -1 := by rw [HFR.out, hl]
   rw [hfr] at HF
   clear hfr hl HFR
   go_wp2_with fail
   refine HF.out.mono ?_
   rintro e w2 ⟨rfl, rfl⟩
   go_wp2_with fail
   go_ret
   rw [HX.out]
   exact ⟨rfl, (H1.out.wide (fun y hy => .inl hy)).more (by omega), HM1.out⟩
  | some i =>
   obtain ⟨fv, nv, sv, wv, fw, hi⟩ := H1.out
   obtain ⟨hif, hnm⟩ := hi.named hl
   have HX := Lib.hid (show appendR d x b = writeR d1 i ⟨d1.files[i].now.length, b⟩ from by rw [HX1.out, ← HFI.out.2.1, hl]; show writeR d1 i ⟨(filAt d1 i).now.length, b⟩ = _; rw [filAt_get hif])
   have hfr : findR d1.now x = (i : Int) := by rw [HFR.out, hl]
   rw [hfr] at HF
   have HW := Lib.hid (write_r H1.out (by omega) hif hnm (HBY.out _ HM1.out) hbl (Nat.le_refl _))
   obtain ⟨c0, -⟩ := hi.cells
   obtain ⟨bf, of, cf, hfv, hrg⟩ := hi.file hif
   subst hfv
   have hf0 := hrg 0 _ rfl
   rw [Nat.add_zero] at hf0
   have hsz := bstr_size d1.files[i].now
   have hfl : d1.files.length ≤ 1000000 := by have := hi.fit.f; omega
   have hfb := (hi.fit.b _ (List.getElem_mem hif)).1
   have hil : (i : Int) < (d1.files.length : Int) := by omega
   clear hfr hl HFR hi hrg hnm
   generalize d1.files[i].now = y at *
   go_wp2_with fail
   refine HF.out.mono ?_
   rintro e w2 ⟨rfl, rfl⟩
   go_wp2_with fail
   unfold RDid at HW
   refine HW.out.mono ?_
   rintro e w2 ⟨rfl, h2, hm2⟩
   have H2 := Lib.hid h2
   have HM2 := Lib.hid hm2
   clear h2 hm2 HW HF c0 hf0
   go_wp2_with fail
   go_ret
   rw [HX.out]
   exact ⟨rfl, Mods.more_of HM1.out H2.out, HM1.out.trans HM2.out (fun y hy _ => hy)⟩
 ·have HX := Lib.hid (HX0.out.trans (if_pos he))
  have he' : (er != 0) = true := by simp [he]
  clear he
  go_wp2_with fail
  go_ret
  rw [HX.out]
  exact ⟨rfl, (H1.out.wide (fun y hy => .inl hy)).more (by omega), HM1.out⟩
end
end Rf
end Go.Proofs.YtchjncnolmiejaaGreat

/- The document's disk: Pwrite, Sync. -/
namespace Go.Proofs.YtchjncnolmiejaaGreat
open Go.RowKit
namespace Rf
open Vd
section
variable {w : World} {M : Nat → Prop} {m : Nat} {d : RDsk} {k : Nat}
set_option maxRecDepth 100000 in
set_option maxHeartbeats 4000000 in
theorem rsync_r (h : RefAt w M m d k) (hk : k ≤ 90000) (x : Str) : Calls Tryz.prog 136 #[.pointer (some ⟨m, 0, none⟩), .string (bstr x)] w (RDid w M m (syncR d x) (k + 2)) := by
 have HB := Lib.hid (begin_r w h (by omega))
 have HX0 : Hid (syncR d x = if (beginR d).2 ≠ 0 then beginR d else match Vd.look d.now x with | none => ((beginR d).1, 7) | some i => (setR (beginR d).1 i ⟨(filAt (beginR d).1 i).now, (filAt (beginR d).1 i).now, []⟩, 0)) := Lib.hid (by
  unfold syncR
  split
  ·rfl
  ·cases Vd.look d.now x with
   | none => rfl
   | some i => simp only [beginR_filAt, setR, beginR_files])
 have HFI := Lib.hid (beginR_files d)
 clear h
 unfold RDid
 generalize beginR d = r at *
 obtain ⟨d1, er⟩ := r
 simp only at HB HX0 HFI
 go_enter Tryz.func136, Tryz.ntmps136
 go_wp2_with fail
 refine HB.out.mono ?_
 rintro e w1 ⟨rfl, h1, hm1⟩
 have H1 := Lib.hid h1
 have HM1 := Lib.hid hm1
 clear h1 hm1 HB
 by_cases he : er = 0
 ·subst he
  have HX1 := Lib.hid (HX0.out.trans (if_neg (by simp)))
  have HF := Lib.hid (rfind_r H1.out x)
  have HFR : Hid (findR d1.now x = match Vd.look d1.now x with | none => -1 | some i => (i : Int)) := Lib.hid rfl
  cases hl : Vd.look d1.now x with
  | none =>
   have HX := Lib.hid (show syncR d x = (d1, 7) from by rw [HX1.out, ← HFI.out.2.1, hl])
   have hfr : findR d1.now x = -1 := by rw [HFR.out, hl]
   rw [hfr] at HF
   clear hfr hl HFR
   go_wp2_with fail
   refine HF.out.mono ?_
   rintro e w2 ⟨rfl, rfl⟩
   go_wp2_with fail
   go_ret
   rw [HX.out]
   exact ⟨rfl, (H1.out.wide (fun y hy => .inl hy)).more (by omega), HM1.out⟩
  | some i =>
   obtain ⟨fv, nv, sv, wv, fw, hi⟩ := H1.out
   obtain ⟨hif, hnm⟩ := hi.named hl
   have HX := Lib.hid (show syncR d x = (setR d1 i ⟨d1.files[i].now, d1.files[i].now, []⟩, 0) from by rw [HX1.out, ← HFI.out.2.1, hl]; show (setR d1 i ⟨(filAt d1 i).now, (filAt d1 i).now, []⟩, (0 : Int)) = _; rw [filAt_get hif])
   have hfr : findR d1.now x = (i : Int) := by rw [HFR.out, hl]
   rw [hfr] at HF
   obtain ⟨c0, -⟩ := hi.cells
   obtain ⟨bf, of, cf, hfv, hrg⟩ := hi.file hif
   subst hfv
   have HFNE := Lib.hid (show (Value.slice (some ⟨bf, of, none⟩) d1.files.length cf).ownBlock ≠ some m from fun e => Frm.ownsRow_ne hi.files hi.blk (by decide) e)
   have hf0 := hrg 0 _ rfl
   rw [Nat.add_zero] at hf0
   have hsz := bstr_size d1.files[i].now
   have hfl : d1.files.length ≤ 1000000 := by have := hi.fit.f; omega
   have hfb := (hi.fit.b _ (List.getElem_mem hif)).1
   have hil : (i : Int) < (d1.files.length : Int) := by omega
   have HFU := Lib.hid (set_fit (i := i) (f := ⟨d1.files[i].now, d1.files[i].now, []⟩) hi.fit (Nat.zero_le _) ⟨hfb, hfb⟩)
   clear hfr hl HFR hi hrg hnm
   generalize d1.files[i].now = y at *
   have HCS := Lib.hid (And.intro c0 hf0)
   clear c0 hf0
   go_wp2_with fail
   refine HF.out.mono ?_
   rintro e w2 ⟨rfl, rfl⟩
   go_upto_region 7 with fail
   have HNE := Lib.hid (show bf ≠ m from fun e => HFNE.out (by rw [e]; rfl))
   have HR1 := Lib.hid (H1.out.keeps (Keeps.refl w1).drew)
   have HMD := Lib.hid HM1.out.drew
   have HC0 := Lib.hid (keep1 (Keeps.refl w1).drew HCS.out.1)
   refine wp_region_noPanic ?_
   refine wp_region_held_drew (S := fun w' => Mods (· = m) w1 w') (by kernel_rfl) ((Mods.refl (· = m) w1).drew) (fun _ => ?_)
   have hHeld : Mods (· = m) w1 (w1).drew := (Mods.refl (· = m) w1).drew
   generalize World.drew w1 = xs at *
   refine tq 0 17 ?_
   refine tq 1 18 ?_
   refine tq 2 19 ?_
   refine tq 3 20 ?_
   refine tq 4 21 ?_
   refine tq 6 23 ?_
   refine tq 10 27 ?_
   refine tq 11 28 ?_
   refine tq 12 29 ?_
   refine tq 14 31 ?_
   refine wpAnyH_ready (rs := [5, 13]) (by kernel_rfl) (by simp) ?_
   refine AllReadyH.cons (o := _) rfl (fun K hK => ?_) ?_
   ·have hx := HC0.out
    go_simp
    clear hx
    have hb := hHeld
    refine bkm hK hb ?_
    clear hK K hHeld
    have hHeld : Mods (· = m) w1 xs := hb
    clear hb
    refine tq 7 24 ?_
    refine tq 8 25 ?_
    refine tq 9 26 ?_ (hy := fun w' hSw => by
     have hSw : Mods (· = m) w1 w' := hSw
     have hx := hSw.cell HCS.out.2 (fun e => HNE.out e)
     clear hSw
     go_simp
     try with_reducible rfl)
    refine rd1 13 (fun K hK => ?_)
    have hx := HC0.out
    go_simp
    clear hx
    have hb := hHeld
    refine bkm hK hb ?_
    clear hK K hHeld
    have hHeld : Mods (· = m) w1 xs := hb
    clear hb
    refine tq 15 32 ?_
    refine tq 16 33 ?_
    refine tq 17 34 ?_ (hy := fun w' hSw => by
     have hSw : Mods (· = m) w1 w' := hSw
     have hx := hSw.cell HCS.out.2 (fun e => HNE.out e)
     clear hSw
     go_simp
     try with_reducible rfl)
    refine tq 18 35 ?_
    refine rd1 19 (fun K hK => ?_)
    go_simp
    have HWI := Lib.hid (with_r (HR1.out.more (Nat.le_succ _)) (by omega) hif ⟨y, y, []⟩ (.slice none 0 0) (World.ownsRow_nil _ _ _ 2) (fun y hy => by simp [Value.ownBlock] at hy) HFU.out)
    unfold filA at HWI
    refine HWI.out.mono ?_
    rintro e xF ⟨rfl, h6, hm6⟩
    have H6 := Lib.hid h6
    have hb := hHeld.trans hm6 (fun y hy _ => hy)
    clear h6 hm6 HWI
    go_wp2_with fail
    refine bkm hK hb ?_
    clear hK K hHeld
    have hHeld : Mods (· = m) w1 xF := hb
    clear hb
    refine wpAnyH_done (by kernel_rfl) ?_ _
    refine NoPanic.normal ?_
    go_wp2_with fail
    go_ret
    rw [HX.out]
    exact ⟨rfl, Mods.more_of HMD.out H6.out, HM1.out.trans hHeld (fun y hy _ => hy)⟩
   refine AllReadyH.cons (o := _) rfl (fun K hK => ?_) ?_
   ·have hx := HC0.out
    go_simp
    clear hx
    have hb := hHeld
    refine bkm hK hb ?_
    clear hK K hHeld
    have hHeld : Mods (· = m) w1 xs := hb
    clear hb
    refine tq 15 32 ?_
    refine tq 16 33 ?_
    refine tq 17 34 ?_ (hy := fun w' hSw => by
     have hSw : Mods (· = m) w1 w' := hSw
     have hx := hSw.cell HCS.out.2 (fun e => HNE.out e)
     clear hSw
     go_simp
     try with_reducible rfl)
    refine rd1 5 (fun K hK => ?_)
    have hx := HC0.out
    go_simp
    clear hx
    have hb := hHeld
    refine bkm hK hb ?_
    clear hK K hHeld
    have hHeld : Mods (· = m) w1 xs := hb
    clear hb
    refine tq 7 24 ?_
    refine tq 8 25 ?_
    refine tq 9 26 ?_ (hy := fun w' hSw => by
     have hSw : Mods (· = m) w1 w' := hSw
     have hx := hSw.cell HCS.out.2 (fun e => HNE.out e)
     clear hSw
     go_simp
     try with_reducible rfl)
    refine tq 18 35 ?_
    refine rd1 19 (fun K hK => ?_)
    go_simp
    have HWI := Lib.hid (with_r (HR1.out.more (Nat.le_succ _)) (by omega) hif ⟨y, y, []⟩ (.slice none 0 0) (World.ownsRow_nil _ _ _ 2) (fun y hy => by simp [Value.ownBlock] at hy) HFU.out)
    unfold filA at HWI
    refine HWI.out.mono ?_
    rintro e xF ⟨rfl, h6, hm6⟩
    have H6 := Lib.hid h6
    have hb := hHeld.trans hm6 (fun y hy _ => hy)
    clear h6 hm6 HWI
    go_wp2_with fail
    refine bkm hK hb ?_
    clear hK K hHeld
    have hHeld : Mods (· = m) w1 xF := hb
    clear hb
    refine wpAnyH_done (by kernel_rfl) ?_ _
    refine NoPanic.normal ?_
    go_wp2_with fail
    go_ret
    rw [HX.out]
    exact ⟨rfl, Mods.more_of HMD.out H6.out, HM1.out.trans hHeld (fun y hy _ => hy)⟩
   exact AllReadyH.nil
 ·have HX := Lib.hid (HX0.out.trans (if_pos he))
  have he' : (er != 0) = true := by simp [he]
  clear he
  go_wp2_with fail
  go_ret
  rw [HX.out]
  exact ⟨rfl, (H1.out.wide (fun y hy => .inl hy)).more (by omega), HM1.out⟩
end
end Rf
end Go.Proofs.YtchjncnolmiejaaGreat

/- The document's disk: New of no files. -/
namespace Go.Proofs.YtchjncnolmiejaaGreat
open Go.RowKit
namespace Rf
open Vd
def rd0 (cap : Int) : RDsk := ⟨[], [], [], [], cap, false, 0, -1, -1, 0⟩
def newR0 (cap : Int) : Option RDsk := if cap < 1 ∨ 4194304 < cap then none else some (rd0 cap)
def NewR (W : World) (r : Option RDsk) (e : Ending) (w' : World) : Prop := Keeps W w' ∧ match r with
 | none => e = .returned (.pointer none)
 | some d => ∃ m, e = .returned (.pointer (some ⟨m, 0, none⟩)) ∧ RefAt w' (fun y => W.heap.size ≤ y ∧ y < w'.heap.size) m d 0
end Rf
end Go.Proofs.YtchjncnolmiejaaGreat

/- The disk and the document's disk side by side, behind a world of the law's; blocks L that are neither's. -/
namespace Go.Proofs.YtchjncnolmiejaaGreat
open Go.RowKit
namespace Rf
open Vd
open Go.Maps
structure Two (L : List Nat) (W w : World) (g : Nat) (d : Dsk) (m : Nat) (r : RDsk) (k : Nat) (S M : Nat → Prop) : Prop where
 dsk : DiskAt w S g d
 ref : RefAt w M m r k
 ap : ∀ y, S y → ¬ M y
 ls : ∀ y, S y → W.heap.size ≤ y ∧ y < w.heap.size ∧ y ∉ L
 lm : ∀ y, M y → W.heap.size ≤ y ∧ y < w.heap.size ∧ y ∉ L
 ll : ∀ y ∈ L, y < w.heap.size
 keep : Keeps W w
 few : Few d k
def TwoAt (L : List Nat) (W w : World) (g : Nat) (d : Dsk) (m : Nat) (r : RDsk) (k : Nat) : Prop := ∃ S M, Two L W w g d m r k S M
section
variable {L : List Nat} {W w wb w' : World} {g m : Nat} {d d' : Dsk} {r r' : RDsk} {k k' : Nat} {S M : Nat → Prop}
theorem Two.more (h : Two L W w g d m r k S M) (hk : k ≤ k') : Two L W w g d m r k' S M := { h with ref := h.ref.more hk, few := h.few.mono hk }
theorem Two.keeps (h : Two L W w g d m r k S M) (hk : Keeps w w') : Two L W w' g d m r k S M :=
 {dsk := h.dsk.keeps hk, ref := h.ref.keeps hk, ap := h.ap, ls := fun y hy => ⟨(h.ls y hy).1, Nat.lt_of_lt_of_le (h.ls y hy).2.1 hk.size, (h.ls y hy).2.2⟩, lm := fun y hy => ⟨(h.lm y hy).1, Nat.lt_of_lt_of_le (h.lm y hy).2.1 hk.size, (h.lm y hy).2.2⟩, ll := fun y hy => Nat.lt_of_lt_of_le (h.ll y hy) hk.size, keep := h.keep.trans hk, few := h.few }
theorem TwoAt.keeps (h : TwoAt L W w g d m r k) (hk : Keeps w w') : TwoAt L W w' g d m r k := let ⟨_, _, h⟩ := h; ⟨_, _, h.keeps hk⟩
theorem TwoAt.more (h : TwoAt L W w g d m r k) (hk : k ≤ k') : TwoAt L W w g d m r k' := let ⟨_, _, h⟩ := h; ⟨_, _, h.more hk⟩
theorem TwoAt.kp (h : TwoAt L W w g d m r k) : Keeps W w := let ⟨_, _, h⟩ := h; h.keep
theorem TwoAt.fw (h : TwoAt L W w g d m r k) : Few d k := let ⟨_, _, h⟩ := h; h.few
/-- a block that was made since is set aside -/
theorem TwoAt.aside (h : TwoAt L W w g d m r k) (hk : Keeps w w') {b : Nat} (hb : w.heap.size ≤ b) (hb' : b < w'.heap.size) : TwoAt (b :: L) W w' g d m r k := by
 obtain ⟨S, M, h⟩ := h
 have h2 := h.keeps hk
 refine ⟨S, M, { h2 with ls := fun y hy => ⟨(h2.ls y hy).1, (h2.ls y hy).2.1, ?_⟩, lm := fun y hy => ⟨(h2.lm y hy).1, (h2.lm y hy).2.1, ?_⟩, ll := fun y hy => ?_ }⟩
 ·have := (h.ls y hy).2.1
  intro hh
  rcases List.mem_cons.1 hh with e | e
  ·omega
  ·exact (h.ls y hy).2.2 e
 ·have := (h.lm y hy).2.1
  intro hh
  rcases List.mem_cons.1 hh with e | e
  ·omega
  ·exact (h.lm y hy).2.2 e
 ·rcases List.mem_cons.1 hy with rfl | e
  ·exact hb'
  ·exact h2.ll y e
theorem TwoAt.drop {L' : List Nat} (h : TwoAt L W w g d m r k) (hl : ∀ y ∈ L', y ∈ L) : TwoAt L' W w g d m r k := by
 obtain ⟨S, M, h⟩ := h
 exact ⟨S, M, { h with ls := fun y hy => ⟨(h.ls y hy).1, (h.ls y hy).2.1, fun hh => (h.ls y hy).2.2 (hl y hh)⟩, lm := fun y hy => ⟨(h.lm y hy).1, (h.lm y hy).2.1, fun hh => (h.lm y hy).2.2 (hl y hh)⟩, ll := fun y hy => h.ll y (hl y hy) }⟩
/-- what a call leaves: the blocks set aside, and the law's, as they were -/
def TwoDid (L : List Nat) (W w : World) (g : Nat) (d : Dsk) (m : Nat) (r : RDsk) (k : Nat) (v : Value) (e : Ending) (w' : World) : Prop := e = .returned v ∧ TwoAt L W w' g d m r k ∧ Mods (fun y => W.heap.size ≤ y ∧ y ∉ L) w w'
/-- the disk alone was changed -/
theorem Two.disk (h : Two L W w g d m r k S M) (hd : DiskAt w' (More S w w') g d') (hm : Mods (More S w w') w w') (hf : Few d' k') (hk : k ≤ k') : TwoAt L W w' g d' m r k' ∧ Mods (fun y => W.heap.size ≤ y ∧ y ∉ L) w w' := by
 have hs := hm.size
 have hk0 := h.keep.size
 refine ⟨⟨More S w w', M, ?_⟩, ?_⟩
 ·exact
  {dsk := hd
   ref := (h.ref.apart hm (fun y hy hh => by
    rcases hh with hh | hh
    ·exact h.ap y hh hy
    ·have := (h.lm y hy).2; omega)).more hk
   ap := fun y hy hh => by
    rcases hy with hy | hy
    ·exact h.ap y hy hh
    ·have := (h.lm y hh).2; omega
   ls := fun y hy => by
    rcases hy with hy | hy
    ·have := h.ls y hy; exact ⟨this.1, by omega, this.2.2⟩
    ·exact ⟨by omega, by omega, fun hh => by have := h.ll y hh; omega⟩
   lm := fun y hy => by have := h.lm y hy; exact ⟨this.1, by omega, this.2.2⟩
   ll := fun y hy => Nat.lt_of_lt_of_le (h.ll y hy) hs
   keep := hm.keeps h.keep (fun y hy => by
    rcases hy with hy | hy
    ·exact (h.ls y hy).1
    ·omega)
   few := hf }
 ·refine ⟨hm.os, hm.tape, hm.output, hm.size, fun y hy hn => hm.block y hy (fun hh => hn ?_)⟩
  rcases hh with hh | hh
  ·exact ⟨(h.ls y hh).1, (h.ls y hh).2.2⟩
  ·omega
theorem Two.did (h : Two L W w g d m r k S M) {x : Dsk × Int} {e : Ending} (hd : DskDid w (More S w w') g x e w') (hf : Few x.1 k') (hk : k ≤ k') : TwoDid L W w g x.1 m r k' (.int .i64 x.2) e w' :=
 ⟨hd.1, h.disk hd.2.1 hd.2.2 hf hk⟩
theorem Two.did0 (h : Two L W w g d m r k S M) {x : Dsk × Int} {e : Ending} (hd : DskDid w S g x e w') (hf : Few x.1 k') (hk : k ≤ k') : TwoDid L W w g x.1 m r k' (.int .i64 x.2) e w' :=
 ⟨hd.1, h.disk (hd.2.1.wide (fun y hy => .inl hy)) (hd.2.2.mono (fun y hy => .inl hy)) hf hk⟩
/-- the document's disk alone was changed -/
theorem Two.refd (h : Two L W w g d m r k S M) (hr : RefAt w' (More M w w') m r' k') (hm : Mods (· = m) w w') (hk : k ≤ k') : TwoAt L W w' g d m r' k' ∧ Mods (fun y => W.heap.size ≤ y ∧ y ∉ L) w w' := by
 have hM : M m := by obtain ⟨_, _, _, _, _, hh⟩ := h.ref; exact hh.sm
 have hs := hm.size
 have hk0 := h.keep.size
 refine ⟨⟨S, More M w w', ?_⟩, hm.mono (fun y hy => by subst hy; exact ⟨(h.lm _ hM).1, (h.lm _ hM).2.2⟩)⟩
 exact
  {dsk := h.dsk.apart hm (fun y hy e => by subst e; exact h.ap _ hy hM)
   ref := hr
   ap := fun y hy hh => by
    rcases hh with hh | hh
    ·exact h.ap y hy hh
    ·have := (h.ls y hy).2; omega
   ls := fun y hy => by have := h.ls y hy; exact ⟨this.1, by omega, this.2.2⟩
   lm := fun y hy => by
    rcases hy with hy | hy
    ·have := h.lm y hy; exact ⟨this.1, by omega, this.2.2⟩
    ·exact ⟨by omega, by omega, fun hh => by have := h.ll y hh; omega⟩
   ll := fun y hy => Nat.lt_of_lt_of_le (h.ll y hy) hs
   keep := hm.keeps h.keep (fun y hy => by subst hy; exact (h.lm _ hM).1)
   few := h.few.mono hk }
theorem Two.rdid (h : Two L W w g d m r k S M) {x : RDsk × Int} {e : Ending} (hd : RDid w M m x k' e w') (hk : k ≤ k') (hk2 : k' ≤ k + 3) : TwoDid L W w g d m x.1 (k + 3) (.int .i64 x.2) e w' :=
 ⟨hd.1, h.refd (hd.2.1.more hk2) hd.2.2 (by omega)⟩
theorem Few.cnt {d : Dsk} {k : Nat} (h : Few d k) (hk : k ≤ 90000) : -1 ≤ d.count ∧ d.count ≤ 9000000000000000000 := by
 have h0 := h.c0
 have h1 := h.c1
 omega
/-- a row in a block set aside, or of the law's, stays -/
theorem TwoAt.row (h : TwoAt L W w g d m r k) {T : Nat → Prop} (hm : Mods T w w') (hT : ∀ y, T y → W.heap.size ≤ y ∧ y ∉ L) {b n c : Nat} {l : List Value} (hb : b ∈ L) (hr : Row w (.slice (some ⟨b, 0, none⟩) n c) l) : Row w' (.slice (some ⟨b, 0, none⟩) n c) l := row_modsB hr hm (fun hh => (hT _ hh).2 hb)
theorem Two.mine (h : Two L W w g d m r k S M) : ∀ y, S y → W.heap.size ≤ y ∧ y ∉ L := fun y hy => ⟨(h.ls y hy).1, (h.ls y hy).2.2⟩
theorem crash_two (h : TwoAt L W w g d m r k) (n : Int) : Calls Tryz.prog 18 #[.pointer (some ⟨g, 0, none⟩), .int .i64 n] w (TwoDid L W w g { d with crash := setT n 11 } m r k (.tuple #[])) := by
 obtain ⟨S, M, h⟩ := h
 exact (crash_any w h.dsk n).mono (fun e w' hd => ⟨hd.1, h.disk (hd.2.1.wide (fun y hy => .inl hy)) (hd.2.2.mono (fun y hy => .inl hy)) ⟨h.few.c0, h.few.c1, h.few.m, h.few.n, h.few.p, h.few.s, h.few.u⟩ (Nat.le_refl _)⟩)
theorem fail_two (h : TwoAt L W w g d m r k) (n er : Int) : Calls Tryz.prog 16 #[.pointer (some ⟨g, 0, none⟩), .int .i64 n, .int .i64 er] w (TwoDid L W w g { d with fail := failT n er } m r k (.tuple #[])) := by
 obtain ⟨S, M, h⟩ := h
 exact (fail_any w h.dsk n er).mono (fun e w' hd => ⟨hd.1, h.disk (hd.2.1.wide (fun y hy => .inl hy)) (hd.2.2.mono (fun y hy => .inl hy)) ⟨h.few.c0, h.few.c1, h.few.m, h.few.n, h.few.p, h.few.s, h.few.u⟩ (Nat.le_refl _)⟩)
theorem rcreate_two (h : TwoAt L W w g d m r k) (hk : k ≤ 90000) (x : Str) (hx : x.length ≤ 9000000000000000000) : Calls Tryz.prog 50 #[.pointer (some ⟨m, 0, none⟩), .string (bstr x)] w (TwoDid L W w g d m (createR r x).1 (k + 3) (.int .i64 (createR r x).2)) := by
 obtain ⟨S, M, h⟩ := h
 exact (rcreate_r h.ref (by omega) x hx).mono (fun e w' hd => h.rdid hd (by omega) (by omega))
theorem rappend_two (h : TwoAt L W w g d m r k) (hk : k ≤ 90000) (x : Str) {b : Str} {bv : Value} (hb : Row w bv (b.map u8v)) (hbl : b.length ≤ 1000000000) : Calls Tryz.prog 94 #[.pointer (some ⟨m, 0, none⟩), .string (bstr x), bv] w (TwoDid L W w g d m (appendR r x b).1 (k + 3) (.int .i64 (appendR r x b).2)) := by
 obtain ⟨S, M, h⟩ := h
 exact (rappend_r h.ref hk x hb hbl).mono (fun e w' hd => h.rdid hd (by omega) (by omega))
theorem rsync_two (h : TwoAt L W w g d m r k) (hk : k ≤ 90000) (x : Str) : Calls Tryz.prog 136 #[.pointer (some ⟨m, 0, none⟩), .string (bstr x)] w (TwoDid L W w g d m (syncR r x).1 (k + 3) (.int .i64 (syncR r x).2)) := by
 obtain ⟨S, M, h⟩ := h
 exact (rsync_r h.ref hk x).mono (fun e w' hd => h.rdid hd (by omega) (by omega))
theorem rrename_two (h : TwoAt L W w g d m r k) (hk : k ≤ 90000) (x y : Str) (hy : y.length ≤ 9000000000000000000) : Calls Tryz.prog 51 #[.pointer (some ⟨m, 0, none⟩), .string (bstr x), .string (bstr y)] w (TwoDid L W w g d m (renameR r x y).1 (k + 3) (.int .i64 (renameR r x y).2)) := by
 obtain ⟨S, M, h⟩ := h
 exact (rrename_r h.ref (by omega) x y hy).mono (fun e w' hd => h.rdid hd (by omega) (by omega))
theorem runlink_two (h : TwoAt L W w g d m r k) (hk : k ≤ 90000) (x : Str) : Calls Tryz.prog 49 #[.pointer (some ⟨m, 0, none⟩), .string (bstr x)] w (TwoDid L W w g d m (unlinkR r x).1 (k + 3) (.int .i64 (unlinkR r x).2)) := by
 obtain ⟨S, M, h⟩ := h
 exact (runlink_r h.ref (by omega) x).mono (fun e w' hd => h.rdid hd (by omega) (by omega))
theorem rsyncDir_two (h : TwoAt L W w g d m r k) (hk : k ≤ 90000) : Calls Tryz.prog 74 #[.pointer (some ⟨m, 0, none⟩)] w (TwoDid L W w g d m (syncDirR r).1 (k + 3) (.int .i64 (syncDirR r).2)) := by
 obtain ⟨S, M, h⟩ := h
 exact (rsyncDir_r h.ref (by omega)).mono (fun e w' hd => h.rdid hd (by omega) (by omega))
/-- one counter of the document's disk is written -/
theorem TwoAt.counter (h : TwoAt L W w g d m r k) : ∃ fv nv sv wv, Blk w m 59 (rdA r fv nv sv wv) := by
 obtain ⟨S, M, h⟩ := h
 obtain ⟨fv, nv, sv, wv, fw, hh⟩ := h.ref
 exact ⟨fv, nv, sv, wv, hh.blk⟩
theorem TwoAt.put (h : TwoAt L W w g d m r k) {o : Nat} {v : Value} {fail crash err : Int} (hv : ∀ fv nv sv wv, (rdA r fv nv sv wv).setIfInBounds o v = rdA { r with fail := fail, crash := crash, err := err } fv nv sv wv) (h1 : -1 ≤ fail ∧ fail ≤ 9223372036854775807) (h2 : -1 ≤ crash ∧ crash ≤ 9223372036854775807) : TwoAt L W (w.setCell ⟨m, o, none⟩ v) g d m { r with fail := fail, crash := crash, err := err } k ∧ Mods (fun y => W.heap.size ≤ y ∧ y ∉ L) w (w.setCell ⟨m, o, none⟩ v) := by
 obtain ⟨S, M, h⟩ := h
 obtain ⟨fv, nv, sv, wv, fw, hh⟩ := h.ref
 have hM := (Mods.refl (· = m) w).setCell (p := ⟨m, o, none⟩) (fun _ => rfl) v
 have hB : Blk (w.setCell ⟨m, o, none⟩ v) m 59 (rdA { r with fail := fail, crash := crash, err := err } fv nv sv wv) := by
  rw [← hv]
  exact hh.blk.set_ o v
 have hF : RFit { r with fail := fail, crash := crash, err := err } k := { hh.fit with t1 := h1, t2 := h2 }
 exact h.refd (RefAt.wide ⟨_, _, _, _, _, hh.turn (down := r.down) (calls := r.calls) hM hB hF⟩ (fun y hy => .inl hy)) hM (Nat.le_refl _)
end
end Rf
end Go.Proofs.YtchjncnolmiejaaGreat

/- safe: Swap. -/
namespace Go.Proofs.YtchjncnolmiejaaGreat
open Go.RowKit
namespace Sf
open Vd
def dotN : Str := [46, 110]
/-- the new file is taken away, if it is there still -/
def tidyS (n : Str) (q : Dsk × Int) : Dsk × Int := if q.2 = 0 ∨ q.2 = 11 ∨ hasD q.1 n = false then q else ((sUnlink n q.1).1, q.2)
def sSwap1 (x n b : Str) (d : Dsk) : Dsk × Int := tidyS n (thenD (thenD (thenD (createD d n) (sAppend n b)) (fun d => renameD d n x)) sDir)
def sSwap (x b : Str) (d : Dsk) : Dsk × Int :=
 if 30 < x.length then (d, 3) else if hasD d (x ++ dotN) then (if (unlinkD d (x ++ dotN)).2 ≠ 0 then unlinkD d (x ++ dotN) else sSwap1 x (x ++ dotN) b (unlinkD d (x ++ dotN)).1) else sSwap1 x (x ++ dotN) b d
section
variable {S : Nat → Prop} {w1 w wb w2 w3 : World} {g : Nat} {d d2 : Dsk} {k k2 : Nat}
set_option maxRecDepth 100000 in
set_option maxHeartbeats 2000000 in
theorem sswap_on (h : On S w1 w g d k) (hk : k ≤ 89960) {x b : Str} {p0 : Option Addr} {c0 : Nat} (hx : x.length ≤ 100) (hs : Stays S w1 (.slice p0 b.length c0) (b.map u8v)) (hbl : b.length ≤ 1000000000) : Calls Tryz.prog 55 #[.pointer (some ⟨g, 0, none⟩), .string (bstr x), .slice p0 b.length c0] w (Says (Tells S w1 g (sSwap x b d) (k + 10))) := by
 have H := Lib.hid h
 have HS := Lib.hid hs
 have hsx := bstr_size x
 have HX0 : Hid (sSwap x b d = if 30 < x.length then (d, 3) else if hasD d (x ++ dotN) then (if (unlinkD d (x ++ dotN)).2 ≠ 0 then unlinkD d (x ++ dotN) else sSwap1 x (x ++ dotN) b (unlinkD d (x ++ dotN)).1) else sSwap1 x (x ++ dotN) b d) := Lib.hid rfl
 clear h hs
 go_enter Tryz.func55, Tryz.ntmps55
 go_upto_region 1 with fail
 generalize hW : World.alloc _ _ = wa
 have HB := Lib.hid (show Boxes wa w.heap.size (w.heap.size + 1) g x from by
  rw [← hW]
  exact ⟨((Blk.new _ _ _ rfl).alloc _).alloc _, (Blk.new _ _ _ (by rw [Frm.alloc_size])).alloc _⟩)
 have HR := Lib.hid (show Blk wa (w.heap.size + 1 + 1) 22 #[.slice p0 b.length c0] from by
  rw [← hW]
  exact Blk.new _ _ _ (by rw [Frm.alloc_size, Frm.alloc_size]))
 have HK := Lib.hid (show Keeps w wa from by rw [← hW]; exact (((Keeps.refl _).alloc _).alloc _).alloc _)
 clear hW
 have b1 : wa.cell? ⟨w.heap.size + 1, 0, none⟩ = some (.string (bstr x)) := by rw [HB.out.nm.cell]; rfl
 by_cases h30 : 30 < x.length
 ·have HX : Hid (sSwap x b d = (d, 3)) := Lib.hid (HX0.out.trans (if_pos h30))
  clear HX0
  go_wp2_with fail
  go_ret
  refine ⟨3, rfl, ?_⟩
  rw [HX.out]
  exact ⟨rfl, On.more (H.out.back HK.out (H.out.base HK.out)) (by omega)⟩
 ·have HX1 := Lib.hid (HX0.out.trans (if_neg h30))
  clear HX0
  obtain ⟨n, hn⟩ : ∃ n, n = x ++ dotN := ⟨_, rfl⟩
  have hnl : n.length ≤ 100 := by rw [hn]; simp [dotN]; omega
  have happ : bstr x ++ (⟨#[46, 110]⟩ : ByteArray) = bstr n := by rw [hn]; exact Frm.bstr_append x dotN
  rw [← hn] at HX1
  have hs2 : (⟨#[46, 110]⟩ : ByteArray).size = 2 := rfl
  clear hn
  go_upto_region 4 with fail
  have hnm : n.length ≤ maxLen := by unfold maxLen; omega
  generalize hW : World.alloc wa _ = wb
  have HKab := Lib.hid (show Keeps wa wb from by rw [← hW]; exact (Keeps.refl _).alloc _)
  have HNB := Lib.hid (show Blk wb wa.heap.size 9 #[.string (bstr n)] from by rw [← hW]; exact Blk.new _ _ _ rfl)
  clear hW b1 happ hs2 hsx
  have HKb := Lib.hid (HK.out.trans HKab.out)
  have HBb := Lib.hid (show Boxes wb w.heap.size (w.heap.size + 1) g x from ⟨HB.out.dp.keeps HKab.out, HB.out.nm.keeps HKab.out⟩)
  have HRb := Lib.hid (HR.out.keeps HKab.out)
  have hq0 : w.heap.size + 3 ≤ wa.heap.size := by have := HR.out.lt; omega
  obtain ⟨p, hp⟩ : ∃ p, p = w.heap.size := ⟨_, rfl⟩
  obtain ⟨q, hqe⟩ : ∃ q, q = wa.heap.size := ⟨_, rfl⟩
  rw [← hp] at HBb HRb hq0 ⊢
  rw [← hqe] at HNB hq0 ⊢
  have HPW := Lib.hid hp
  have hqb : q < wb.heap.size := HNB.out.lt
  clear hp hqe HB HR HKab
  have HOB := Lib.hid (H.out.base HKb.out)
  have HHS := Lib.hid (has_on HOB.out n hnm)
  have b0 : wb.cell? ⟨p, 0, none⟩ = some (.pointer (some ⟨g, 0, none⟩)) := by rw [HBb.out.dp.cell]; rfl
  have bn : wb.cell? ⟨q, 0, none⟩ = some (.string (bstr n)) := by rw [HNB.out.cell]; rfl
  go_wp2_with fail
  refine HHS.out.mono ?_
  rintro e w2 ⟨rfl, rfl⟩
  clear HHS
  obtain ⟨hh, hhe⟩ : ∃ hh, hh = hasD d n := ⟨_, rfl⟩
  rw [← hhe] at HX1 ⊢
  clear hhe
  go_upto_if 17 with fail
  go_cut [] (fun wx => ∃ d2 k2, Hid (On (More S w1 w) wb wx g d2 k2 ∧ k2 ≤ k + 1 ∧ sSwap x b d = sSwap1 x n b d2))
  case first =>
   cases hh with
   | false =>
    have HX2 := Lib.hid (HX1.out.trans (if_neg (by simp)))
    go_wp2_with fail
    go_meet
    exact ⟨d, k, Lib.hid ⟨HOB.out, by omega, HX2.out⟩⟩
   | true =>
    have HX2 := Lib.hid (HX1.out.trans (if_pos rfl))
    have HUL := Lib.hid (unlink_on HOB.out (by omega) n hnm)
    generalize unlinkD d n = r at *
    obtain ⟨d2, er⟩ := r
    go_wp2_with fail
    refine HUL.out.mono ?_
    rintro e w2 ⟨rfl, ho2⟩
    have HO2 := Lib.hid ho2
    clear ho2 HUL b0 bn
    by_cases he : er = 0
    ·subst he
     have HX3 := Lib.hid (HX2.out.trans (if_neg (by simp)))
     go_wp2_with fail
     go_meet
     exact ⟨d2, k + 1, Lib.hid ⟨HO2.out, Nat.le_refl _, HX3.out⟩⟩
    ·have HX3 : Hid (sSwap x b d = (d2, er)) := Lib.hid (HX2.out.trans (if_pos he))
     have he' : (er != 0) = true := by simp [he]
     clear he
     go_wp2_with fail
     go_ret
     refine ⟨er, rfl, ?_⟩
     rw [HX3.out]
     exact ⟨rfl, On.more (H.out.back HKb.out HO2.out) (by omega)⟩
  case rest =>
  obtain ⟨d2, k2, HC⟩ := hcut
  obtain ⟨w2, rfl⟩ : ∃ z : World, z = wc := ⟨_, rfl⟩
  have HO2 := Lib.hid HC.out.1
  have hk2 := HC.out.2.1
  have HX2 := Lib.hid HC.out.2.2
  clear HC HX1 b0 bn
  have HN : Hid (∀ b, p ≤ b → b < wb.heap.size → ¬ More (More S w1 w) wb w2 b) := Lib.hid (fun b h1 h2 => off_set H.out HO2.out (by have := HPW.out; omega) h2)
  have HB2 := Lib.hid (show Boxes w2 p q g n from ⟨H.out.blk HO2.out HBb.out.dp (by have := HPW.out; omega), H.out.blk HO2.out HNB.out (by have := HPW.out; omega)⟩)
  have HX2' := Lib.hid (H.out.blk HO2.out HBb.out.nm (by have := HPW.out; omega))
  have HR2 := Lib.hid (H.out.blk HO2.out HRb.out (by have := HPW.out; omega))
  go_wp2_with fail
  generalize hW : World.alloc w2 _ = w3
  have HK3 := Lib.hid (show Keeps w2 w3 from by rw [← hW]; exact (Keeps.refl _).alloc _)
  have HBB := Lib.hid (show Blk w3 w2.heap.size 135 #[cloV (103, #[], #[.pointer (some ⟨p, 0, none⟩), .pointer (some ⟨q, 0, none⟩)]), cloV (104, #[], #[.pointer (some ⟨p, 0, none⟩), .pointer (some ⟨q, 0, none⟩), .pointer (some ⟨p + 1 + 1, 0, none⟩)]), cloV (105, #[], #[.pointer (some ⟨p, 0, none⟩), .pointer (some ⟨q, 0, none⟩), .pointer (some ⟨p + 1, 0, none⟩)]), cloV (107, #[], #[.pointer (some ⟨p, 0, none⟩)])] from by
   rw [← hW]
   exact Blk.new _ _ _ rfl)
  clear hW
  have HO3 := Lib.hid (HO2.out.base HK3.out)
  have HS3 := Lib.hid ((HS.out.base H.out HKb.out).base HO2.out HK3.out)
  have HBX := Lib.hid (fun w' d' k' (ho : On (More (More S w1 w) wb w2) w3 w' g d' k') => show Boxes w' p q g n from ⟨On.kept ho (HB2.out.dp.keeps HK3.out) (HN.out _ (Nat.le_refl _) (by omega)), On.kept ho (HB2.out.nm.keeps HK3.out) (HN.out _ (by omega) hqb)⟩)
  have HST := Lib.hid (steps4_on HO3.out HBB.out (fun hy => by
    have h0 := HO2.out.mods.size
    rcases hy with hy | hy
    ·have := HO2.out.lt _ hy
     omega
    ·omega) (enters_of Tryz.func103 (by kernel_rfl) rfl _) (enters_of Tryz.func104 (by kernel_rfl) rfl _) (enters_of Tryz.func105 (by kernel_rfl) rfl _) (enters_of Tryz.func107 (by kernel_rfl) rfl _)
   (fun d => createD d n) (sAppend n b) (fun d => renameD d n x) sDir (k1 := k2 + 1) (k2 := k2 + 4) (k3 := k2 + 5) (k4 := k2 + 7) (by omega) (by omega) (by omega)
   (fun w' ho => swap1_on ho (by omega) hnl (HBX.out _ _ _ ho))
   (fun w' d' ho => swap2_on ho (by omega) hnl HS3.out hbl (HBX.out _ _ _ ho) (On.kept ho (HR2.out.keeps HK3.out) (HN.out _ (by omega) (by omega))))
   (fun w' d' ho => swap3_on ho (by omega) hnl (by omega) (HBX.out _ _ _ ho) (On.kept ho (HX2'.out.keeps HK3.out) (HN.out _ (by omega) (by omega))))
   (fun w' d' ho => swap4_on ho (by omega) (HBX.out _ _ _ ho).dp))
  have HX3 : Hid (sSwap x b d = tidyS n (thenD (thenD (thenD (createD d2 n) (sAppend n b)) (fun d => renameD d n x)) sDir)) := Lib.hid HX2.out
  generalize thenD (thenD (thenD (createD d2 n) (sAppend n b)) (fun d => renameD d n x)) sDir = qq at *
  obtain ⟨d4, eq⟩ := qq
  refine HST.out.mono ?_
  rintro e w4 ⟨c, rfl, hc, ho⟩
  have hc : c = eq := hc
  subst hc
  have HO4 := Lib.hid ho
  have HB4 := Lib.hid (HBX.out _ _ _ ho)
  clear ho HST
  have b0 : w4.cell? ⟨p, 0, none⟩ = some (.pointer (some ⟨g, 0, none⟩)) := by rw [HB4.out.dp.cell]; rfl
  have b1 : w4.cell? ⟨q, 0, none⟩ = some (.string (bstr n)) := by rw [HB4.out.nm.cell]; rfl
  by_cases h0 : c = 0
  ·subst h0
   have HX : Hid (sSwap x b d = (d4, 0)) := Lib.hid (HX3.out.trans (if_pos (.inl rfl)))
   go_wp2_with fail
   go_ret
   refine ⟨0, rfl, ?_⟩
   rw [HX.out]
   exact ⟨rfl, On.more (H.out.back HKb.out (HO2.out.back HK3.out HO4.out)) (by omega)⟩
  ·by_cases h11 : c = 11
   ·subst h11
    have HX : Hid (sSwap x b d = (d4, 11)) := Lib.hid (HX3.out.trans (if_pos (.inr (.inl rfl))))
    go_wp2_with fail
    go_ret
    refine ⟨11, rfl, ?_⟩
    rw [HX.out]
    exact ⟨rfl, On.more (H.out.back HKb.out (HO2.out.back HK3.out HO4.out)) (by omega)⟩
   ·have HH4 := Lib.hid (has_on HO4.out n hnm)
    have e1 : (c != 0) = true := by simp [h0]
    have e2 : (c != 11) = true := by simp [h11]
    cases hh4 : hasD d4 n with
    | false =>
     have HX : Hid (sSwap x b d = (d4, c)) := Lib.hid (HX3.out.trans (if_pos (.inr (.inr hh4))))
     rw [hh4] at HH4
     clear h0 h11 hh4
     go_wp2_with fail
     refine HH4.out.mono ?_
     rintro e w5 ⟨rfl, rfl⟩
     go_wp2_with fail
     go_ret
     refine ⟨c, rfl, ?_⟩
     rw [HX.out]
     exact ⟨rfl, On.more (H.out.back HKb.out (HO2.out.back HK3.out HO4.out)) (by omega)⟩
    | true =>
     have HX : Hid (sSwap x b d = ((sUnlink n d4).1, c)) := Lib.hid (HX3.out.trans (if_neg (by simp [h0, h11, hh4])))
     rw [hh4] at HH4
     have HUL := Lib.hid (sunlink_on HO4.out (by omega) n hnm)
     clear h0 h11 hh4
     go_wp2_with fail
     refine HH4.out.mono ?_
     rintro e w5 ⟨rfl, rfl⟩
     go_wp2_with fail
     refine HUL.out.mono ?_
     rintro e w5 ⟨rfl, ho5⟩
     have HO5 := Lib.hid ho5
     clear ho5 HUL b0 b1
     go_wp2_with fail
     go_ret
     refine ⟨c, rfl, ?_⟩
     rw [HX.out]
     exact ⟨rfl, On.more (H.out.back HKb.out (HO2.out.back HK3.out HO5.out)) (by omega)⟩
end
end Sf
end Go.Proofs.YtchjncnolmiejaaGreat

/- law16's awake. -/
namespace Go.Proofs.YtchjncnolmiejaaGreat
open Go.RowKit
namespace Sf
open Vd
theorem calls_any (w : World) {S : Nat → Prop} {g : Nat} {d : Dsk} (h : DiskAt w S g d) : Calls Tryz.prog 24 #[.pointer (some ⟨g, 0, none⟩)] w fun e w' => e = .returned (.int .i64 d.count) ∧ w = w' := by
 obtain ⟨b1, b2, nv, mv, nb, h⟩ := h
 obtain ⟨-, -, -, -, -, -, c6, -⟩ := h.cells
 clear h
 go_enter Tryz.func24, Tryz.ntmps24
 go_wp2_with fail
 go_ret
 exact ⟨rfl, rfl⟩
def as1 : Dsk := (sSwap nA [120, 121] aw0).1
def as2 : Dsk := (sMake nA [] as1).1
def as3 : Dsk := (sAppend nA [122] as2).1
def as4 : Dsk := (sDrop nA as3).1
end Sf
end Go.Proofs.YtchjncnolmiejaaGreat
