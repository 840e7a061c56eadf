/- Several texts in one: BdDisk, BdPut, BdIdx, BdKeepCl, BdKeep, BdDkPl. -/
import Derived.Test.YtklbemkafdccgaaGreatK35
import Derived.Test.YtklbemkafdccgaaGreatK46
import Derived.Test.YtklbemkafdccgaaGreatK45
import Derived.Test.YtklbemkafdccgaaGreatK33
/- bodies: a store beside its disk; Put. -/
namespace Go.Proofs.YtklbemkafdccgaaGreat
open Go.RowKit
namespace Bds
open Mp Go.Maps
open Vd (DiskAt Dsk On Few More)
open Sf (Says Tells Stays sAppend)
open Frm (ownsRow_mods ownsRow_keeps ownsRow_form)
/-- a store and its disk behind a law's world; the blocks L are none of theirs -/
structure BdX (L : List Nat) (W w : World) (g gd n : Nat) (s : BdP) (d : Dsk) (k : Nat) (S O : Nat → Prop) : Prop where
 dsk : DiskAt w S gd d
 st : StAt w O g gd n s
 ls : ∀ y, S y → W.heap.size ≤ y ∧ y < w.heap.size ∧ y ∉ L ∧ ¬ O y
 lo : ∀ y, O y → W.heap.size ≤ y ∧ y < w.heap.size ∧ y ∉ L
 ll : ∀ y ∈ L, y < w.heap.size
 keep : Keeps W w
 few : Few d k
def BdAt (L : List Nat) (W w : World) (g gd n : Nat) (s : BdP) (d : Dsk) (k : Nat) : Prop := ∃ S O, BdX L W w g gd n s d k S O
def BdRest (L : List Nat) (W w : World) (g gd n : Nat) (s : BdP) (d : Dsk) (k : Nat) (w' : World) : Prop := BdAt L W w' g gd n s d k ∧ Mods (fun y => W.heap.size ≤ y ∧ y ∉ L) w w'
section
variable {L : List Nat} {W w w' : World} {g gd n m k k' : Nat} {s : BdP} {d : Dsk} {S O : Nat → Prop}
theorem BdX.keeps (h : BdX L W w g gd n s d k S O) (hk : Keeps w w') : BdX L W w' g gd n s d k S O :=
 ⟨h.dsk.keeps hk, h.st.keeps hk, fun y hy => ⟨(h.ls y hy).1, Nat.lt_of_lt_of_le (h.ls y hy).2.1 hk.size, (h.ls y hy).2.2⟩, fun y hy => ⟨(h.lo y hy).1, Nat.lt_of_lt_of_le (h.lo y hy).2.1 hk.size, (h.lo y hy).2.2⟩, fun y hy => Nat.lt_of_lt_of_le (h.ll y hy) hk.size, h.keep.trans hk, h.few⟩
theorem BdAt.keeps (h : BdAt L W w g gd n s d k) (hk : Keeps w w') : BdAt L W w' g gd n s d k := let ⟨_, _, h⟩ := h; ⟨_, _, h.keeps hk⟩
theorem BdAt.kp (h : BdAt L W w g gd n s d k) : Keeps W w := let ⟨_, _, h⟩ := h; h.keep
theorem BdAt.st (h : BdAt L W w g gd n s d k) : ∃ O, StAt w O g gd n s := let ⟨_, O, h⟩ := h; ⟨O, h.st⟩
theorem BdAt.mono (h : BdAt L W w g gd n s d k) (hn : n ≤ m) (hk : k ≤ k') : BdAt L W w g gd m s d k' := let ⟨_, _, h⟩ := h; ⟨_, _, { h with st := h.st.wide (fun _ hy => hy) hn, few := h.few.mono hk }⟩
theorem BdAt.aside (h : BdAt L W w g gd n s d k) (hk : Keeps w w') {b : Nat} (hb : w.heap.size ≤ b) (hb' : b < w'.heap.size) : BdAt (b :: L) W w' g gd n s d k := by
 obtain ⟨S, O, h⟩ := h
 have h2 := h.keeps hk
 refine ⟨S, O, { h2 with ls := fun y hy => ⟨(h2.ls y hy).1, (h2.ls y hy).2.1, fun hh => ?_, (h2.ls y hy).2.2.2⟩, lo := fun y hy => ⟨(h2.lo y hy).1, (h2.lo y hy).2.1, fun hh => ?_⟩, ll := fun y hy => ?_ }⟩
 ·have := (h.ls y hy).2.1
  rcases List.mem_cons.1 hh with e | e
  ·omega
  ·exact (h.ls y hy).2.2.1 e
 ·have := (h.lo y hy).2.1
  rcases List.mem_cons.1 hh with e | e
  ·omega
  ·exact (h.lo y hy).2.2 e
 ·rcases List.mem_cons.1 hy with rfl | e
  ·exact hb'
  ·exact h2.ll y e
theorem BdAt.drop {L' : List Nat} (h : BdAt L W w g gd n s d k) (hl : ∀ y ∈ L', y ∈ L) : BdAt L' W w g gd n s d k := by
 obtain ⟨S, O, h⟩ := h
 exact ⟨S, O, { h with ls := fun y hy => ⟨(h.ls y hy).1, (h.ls y hy).2.1, fun hh => (h.ls y hy).2.2.1 (hl y hh), (h.ls y hy).2.2.2⟩, lo := fun y hy => ⟨(h.lo y hy).1, (h.lo y hy).2.1, fun hh => (h.lo y hy).2.2 (hl y hh)⟩, ll := fun y hy => h.ll y (hl y hy) }⟩
/-- a block of the law's own was written -/
theorem BdAt.own (h : BdAt L W w g gd n s d k) {T : Nat → Prop} (hm : Mods T w w') (hT : ∀ y, T y → y ∈ L) (hW : ∀ y, T y → W.heap.size ≤ y) : BdAt L W w' g gd n s d k := by
 obtain ⟨S, O, h⟩ := h
 have hs := hm.size
 exact ⟨S, O, h.dsk.apart hm (fun y hy ht => (h.ls y hy).2.2.1 (hT y ht)), h.st.mods hm (fun y hy ht => (h.lo y hy).2.2 (hT y ht)), fun y hy => ⟨(h.ls y hy).1, Nat.lt_of_lt_of_le (h.ls y hy).2.1 hs, (h.ls y hy).2.2⟩, fun y hy => ⟨(h.lo y hy).1, Nat.lt_of_lt_of_le (h.lo y hy).2.1 hs, (h.lo y hy).2.2⟩, fun y hy => Nat.lt_of_lt_of_le (h.ll y hy) hs, hm.keeps h.keep hW, h.few⟩
theorem BdX.on (h : BdX L W w g gd n s d k S O) : On S w w gd d k := ⟨h.dsk.wide (fun y hy => .inl hy), Mods.refl _ _, h.few, fun y hy => (h.ls y hy).2.1⟩
/-- a call on the disk alone -/
theorem BdX.rest {d' : Dsk} (h : BdX L W w g gd n s d k S O) (ho : On S w w' gd d' k') : BdX L W w' g gd n s d' k' (More S w w') O := by
 have hs := ho.mods.size
 have hk := h.keep.size
 refine ⟨ho.dsk, h.st.mods ho.mods (fun y hy hy' => (h.ls y hy').2.2.2 hy), fun y hy => ?_, fun y hy => ⟨(h.lo y hy).1, Nat.lt_of_lt_of_le (h.lo y hy).2.1 hs, (h.lo y hy).2.2⟩, fun y hy => Nat.lt_of_lt_of_le (h.ll y hy) hs, ho.mods.keeps h.keep (fun y hy => (h.ls y hy).1), ho.few⟩
 rcases hy with hy | hy
 ·have := h.ls y hy
  exact ⟨this.1, by omega, this.2.2⟩
 ·exact ⟨by omega, hy.2, fun hh => (by have := h.ll y hh; omega), fun hh => (by have := (h.lo y hh).2.1; omega)⟩
/-- a call on the store alone; new blocks are the store's -/
theorem BdX.store {s' : BdP} (h : BdX L W w g gd n s d k S O) (hst : StAt w' (MoreO O w w') g gd m s') {T : Nat → Prop} (hm : Mods T w w') (hT : ∀ y, T y → O y) : BdX L W w' g gd m s' d k S (MoreO O w w') := by
 have hs := hm.size
 have hk := h.keep.size
 refine ⟨h.dsk.apart hm (fun y hy ht => (h.ls y hy).2.2.2 (hT y ht)), hst, fun y hy => ⟨(h.ls y hy).1, Nat.lt_of_lt_of_le (h.ls y hy).2.1 hs, (h.ls y hy).2.2.1, fun hh => ?_⟩, fun y hy => ?_, fun y hy => Nat.lt_of_lt_of_le (h.ll y hy) hs, hm.keeps h.keep (fun y hy => (h.lo y (hT y hy)).1), h.few⟩
 ·rcases hh with hh | hh
  ·exact (h.ls y hy).2.2.2 hh
  ·have := (h.ls y hy).2.1; omega
 ·rcases hy with hy | hy
  ·have := h.lo y hy
   exact ⟨this.1, by omega, this.2.2⟩
  ·exact ⟨by omega, hy.2, fun hh => (by have := h.ll y hh; omega)⟩
end
def nmB : Str := [98, 111, 100, 105, 101, 115]
end Bds
end Go.Proofs.YtklbemkafdccgaaGreat

/- bodies: Put. -/
namespace Go.Proofs.YtklbemkafdccgaaGreat
open Go.RowKit
namespace Bds
open Mp Go.Maps
open Vd (DiskAt Dsk On Few More)
open Sf (Says Tells Stays sAppend)
open Frm (ownsRow_mods ownsRow_keeps ownsRow_form ownsRow_base)
section
variable {L : List Nat} {W w : World} {g gd n k : Nat} {s : BdP} {d : Dsk}
set_option maxRecDepth 100000 in
set_option maxHeartbeats 4000000 in
theorem put_old (h : BdAt L W w g gd n s d k) (hsl : s.L.length ≤ 900000) {v : Value} {b : Str} (hr : Row w v (b.map u8v)) (hb : b.length ≤ 32768) (hf : 0 < findB s b) :
  Calls Tryz.prog 26 #[.pointer (some ⟨g, 0, none⟩), v] w fun e w' => e = .returned (.tuple #[.int .i64 (findB s b), .int .i64 0]) ∧ Keeps w w' := by
 obtain ⟨O, hst⟩ := h.st
 have CF := Lib.hid (find_any w O g gd n s hst hsl v b hr (by omega))
 obtain ⟨p, cap, rfl, -, -⟩ := hr.form
 rw [List.length_map] at CF ⊢
 have hl : decide ((32768 : Int) < (b.length : Int)) = false := decide_eq_false (by omega)
 have hd : decide (0 < findB s b) = true := decide_eq_true hf
 rw [hd] at CF
 generalize findB s b = F at *
 clear hst hr hsl hb hd hf h
 go_enter Tryz.func26, Tryz.ntmps26
 go_wp2_with fail
 refine CF.out.mono ?_
 rintro e w2 ⟨rfl, hk⟩
 have HK := Lib.hid hk
 clear hk
 go_wp2_with fail
 go_ret2
 exact ⟨rfl, HK.out⟩
set_option maxRecDepth 100000 in
set_option maxHeartbeats 4000000 in
theorem put_new (h : BdAt L W w g gd n s d k) (hk : k ≤ 80000) (hn : n < 900000) (hsl : s.L.length ≤ 900000) (hnx : 1 ≤ s.next ∧ s.next ≤ 2147483648) {v : Value} {b : Str} (hr : ∀ T w', (∀ y, T y → W.heap.size ≤ y ∧ y ∉ L) → Mods T w w' → Row w' v (b.map u8v)) (hb : b.length ≤ 32768) (hf : ¬ 0 < findB s b)
  (hfl : (frB (s.next, b)).length ≤ 1000000000) (hd : (sAppend nmB (frB (s.next, b)) d).2 = 0) :
  Calls Tryz.prog 26 #[.pointer (some ⟨g, 0, none⟩), v] w fun e w' => e = .returned (.tuple #[.int .i64 s.next, .int .i64 0]) ∧ BdRest L W w g gd (n + 1) (addB s s.next b).1 (sAppend nmB (frB (s.next, b)) d).1 (k + 3) w' := by
 rw [show frB (s.next, b) = Rcd.frmL (bdRec s.next b) from rfl] at hfl hd ⊢
 obtain ⟨F9, hF9⟩ : ∃ z, Rcd.frmL (bdRec s.next b) = z := ⟨_, rfl⟩
 rw [hF9] at hfl hd ⊢
 obtain ⟨⟨d', ed⟩, hrd⟩ : ∃ z, sAppend nmB F9 d = z := ⟨_, rfl⟩
 rw [hrd] at hd ⊢
 obtain rfl : ed = 0 := hd
 obtain ⟨⟨s', bb⟩, hab⟩ : ∃ z, addB s s.next b = z := ⟨_, rfl⟩
 rw [hab]
 have HF9 := Lib.hid hF9
 have HRD := Lib.hid hrd
 have HAB := Lib.hid hab
 clear hF9 hrd hab
 obtain ⟨S, O, hx⟩ := h
 have hr0 := hr (fun _ => False) w (fun _ hf => hf.elim) (Mods.refl _ _)
 have CF := Lib.hid (find_any w O g gd n s hx.st hsl v b hr0 (by omega))
 obtain ⟨p, cap, rfl, -, -⟩ := hr0.form
 rw [List.length_map] at CF hr0 hr ⊢
 have HX := Lib.hid hx
 have HR := Lib.hid hr
 have HB := Lib.hid hb
 have HN := Lib.hid (And.intro hn hsl)
 have HNX := Lib.hid hnx
 have HFL := Lib.hid hfl
 have HK := Lib.hid hk
 have hl : decide ((32768 : Int) < (b.length : Int)) = false := decide_eq_false (by omega)
 have hmx : decide ((2147483648 : Int) < s.next) = false := decide_eq_false (by omega)
 rw [decide_eq_false hf] at CF
 have HCH := Lib.hid (chk_bd hnx.1 hnx.2 hb)
 obtain ⟨F, hF⟩ : ∃ z, findB s b = z := ⟨_, rfl⟩
 rw [hF] at CF
 clear hx hr hr0 hb hn hsl hnx hfl hk hf hF
 go_enter Tryz.func26, Tryz.ntmps26
 go_wp2_with fail
 refine CF.out.mono ?_
 rintro e w2 ⟨rfl, hk2⟩
 have HX2 := Lib.hid (HX.out.keeps hk2)
 have HK2 := Lib.hid hk2
 clear hk2 CF
 obtain ⟨b1, b2, nv, av, hin⟩ := HX2.out.st
 have c1 := hin.cells.2.1
 clear hin
 have CFr := Lib.hid (Rcd.frame_any (bdRec s.next b) (.slice p b.length cap) w2 (HR.out (fun _ => False) w2 (fun _ hf => hf.elim) (Mods.of_keeps HK2.out)))
 rw [HCH.out] at CFr
 unfold Rcd.recA bdRec at CFr
 simp only at CFr
 go_wp2_with fail
 refine CFr.out.mono ?_
 rintro e w3 ⟨fv, rfl, ho, hk3⟩
 obtain ⟨fp, fc, rfl, -, -⟩ := ownsRow_form ho
 have HFR := Lib.hid (show (⟨6, 0, 0, 0, 0, 0, 0, 0, s.next, 0, 0, b⟩ : Rcd.Rec) = bdRec s.next b from rfl)
 rw [HFR.out, HF9.out] at ho
 rw [HFR.out, HF9.out]
 have HX3 := Lib.hid (HX2.out.keeps hk3)
 have HK3 := Lib.hid (HK2.out.trans hk3)
 rw [List.length_map] at ho ⊢
 have HO := Lib.hid (show ∀ y, (Value.slice fp F9.length fc).ownBlock = some y → w2.heap.size ≤ y from fun y hy => ownsRow_base ho y hy)
 have HS := Lib.hid (show Stays S w3 (.slice fp F9.length fc) (F9.map u8v) from fun w9 hm => by
  have h9 : Own w9 w2.heap.size 5 (.slice fp F9.length fc) (F9.map u8v) := ownsRow_mods ho hm (fun y hy hs => by have h1 := HO.out y hy; have h2 := (HX2.out.ls y hs).2.1; omega)
  exact h9.row)
 have CA := Lib.hid (show Calls Tryz.prog 82 #[.pointer (some ⟨gd, 0, none⟩), .string ⟨#[98, 111, 100, 105, 101, 115]⟩, .slice fp F9.length fc] w3 (Says (Tells S w3 gd (sAppend nmB F9 d) (k + 3))) from
  Sf.sappend_on HX3.out.on (by have := HK.out; omega) (x := nmB) (by decide) HS.out HFL.out)
 rw [HRD.out] at CA
 obtain ⟨b1, b2, nv, av, hin⟩ := HX3.out.st
 have c0 := hin.cells.1
 clear hin ho hk3 CFr c1 HFL HCH HFR
 go_wp2_with fail
 refine CA.out.mono ?_
 rintro e w4 ⟨c, rfl, hc, hon⟩
 have hc : c = 0 := hc
 subst hc
 have HX4 := Lib.hid (HX3.out.rest hon)
 have HM4 := Lib.hid hon.mods
 clear hon CA c0 HS
 have HRW := Lib.hid (HR.out (fun y => S y) w4 (fun y hy => ⟨(HX.out.ls y hy).1, (HX.out.ls y hy).2.2.1⟩) ((Mods.of_keeps HK3.out).trans HM4.out (fun y hy _ => hy)))
 have CC := Lib.hid (Oct.clone_any _ b w4 HRW.out (by have := HB.out; omega))
 go_wp2_with fail
 refine CC.out.mono ?_
 rintro e w5 ⟨cv, rfl, ho, hk5⟩
 obtain ⟨cp, cc, rfl, -, -⟩ := ownsRow_form ho
 rw [List.length_map] at ho ⊢
 have HCO := Lib.hid ho
 have HX5 := Lib.hid (HX4.out.keeps hk5)
 have HK5 := Lib.hid hk5
 have HAD := Lib.hid (add_any w5 (MoreO O w4 w5) g gd n s (HX5.out.st.wide (fun y hy => .inl hy) (Nat.le_refl _)) (fun y hy => by
  rcases hy with hy | hy
  ·exact (HX5.out.lo y hy).2.1
  ·exact hy.2) HN.out.1 HN.out.2 s.next (by have := HNX.out; omega) (by have := HNX.out; omega) cp cc b (by have := HB.out; omega)
  (HCO.out.piece.lower (Nat.zero_le _))
  (fun hne a ha => .inr (by
   rcases HCO.out.2 with ⟨hv, h0⟩ | ⟨q, cap', cur, hv, h1, h2, -⟩
   ·simp only [Value.slice.injEq] at hv
    rw [ha] at hv
    cases hv.1
   ·simp only [Value.slice.injEq] at hv
    rw [ha] at hv
    simp only [Option.some.injEq] at hv
    rw [hv.1]
    exact ⟨h1, (Array.getElem?_eq_some_iff.1 h2).1⟩)))
 rw [HAB.out] at HAD
 clear ho hk5 CC
 go_wp2_with fail
 refine HAD.out.mono ?_
 rintro e w6 ⟨rfl, hst, hm⟩
 have HST := Lib.hid hst
 have HM := Lib.hid hm
 clear hst hm HAD
 go_wp2_with fail
 go_ret2
 have hmo : Mods (fun y => O y) w4 w6 := (Mods.of_keeps HK5.out).trans HM.out (fun y hy hlt => by
  rcases hy.1 with hy | hy
  ·exact hy
  ·omega)
 have hx6 := HX4.out.store (m := n + 1) (s' := s') (HST.out.wide (fun y hy => by
  have h1 := HK5.out.size
  have h2 := HM.out.size
  rcases hy with (hy | hy) | hy
  ·exact .inl hy
  ·exact .inr ⟨hy.1, by omega⟩
  ·exact .inr ⟨by omega, hy.2⟩) (Nat.le_refl _)) hmo (fun y hy => hy)
 refine ⟨rfl, ⟨_, _, hx6⟩, ?_⟩
 refine ((Mods.of_keeps HK3.out).trans HM4.out (fun y hy _ => ?_)).trans hmo (fun y hy hlt => ?_)
 ·exact ⟨(HX.out.ls y hy).1, (HX.out.ls y hy).2.2.1⟩
 ·exact ⟨(HX.out.lo y hy).1, (HX.out.lo y hy).2.2⟩
end
end Bds
end Go.Proofs.YtklbemkafdccgaaGreat

/- bodies: slices.Index at ints. -/
namespace Go.Proofs.YtklbemkafdccgaaGreat
open Go.RowKit
namespace Bds
open Mp Go.Maps
open Frm (ownsRow_mods ownsRow_keeps ownsRow_form ownsRow_base)
def idxZ (l : List Int) (x : Int) : Int := ((l.findIdx? fun y => decide (y = x)).map fun i => (i : Int)).getD (-1)
theorem idxZ_at {l : List Int} {x : Int} {j : Nat} (hj : j < l.length) (h : l[j] = x) (hb : ∀ k (hk : k < j), l[k]'(Nat.lt_trans hk hj) ≠ x) : idxZ l x = j := by
 unfold idxZ
 rw [List.findIdx?_eq_some_iff_getElem.2 ⟨hj, by simpa using h, fun k hk => by simpa using hb k hk⟩]
 rfl
theorem idxZ_none {l : List Int} {x : Int} (h : x ∉ l) : idxZ l x = -1 := by
 unfold idxZ
 rw [List.findIdx?_eq_none_iff.2 (fun y hy => by simp only [decide_eq_false_iff_not]; exact fun e => h (e ▸ hy))]
 rfl
set_option maxRecDepth 100000 in
set_option maxHeartbeats 2000000 in
theorem index_any (w : World) (v : Value) (l : List Int) (hr : Row w v (l.map (.int .i64))) (hl : l.length ≤ 1000000000) (x : Int) : Calls Tryz.prog 146 #[v, .int .i64 x] w fun e w' => e = .returned (.int .i64 (idxZ l x)) ∧ w = w' := by
 obtain ⟨p, cap, rfl, -, -⟩ := hr.form
 rw [List.length_map] at hr ⊢
 have HR := Lib.hid hr
 clear hr
 go_enter Tryz.func146, Tryz.ntmps146
 go_wp2_with fail
 go_loopw [8] (fun iv wr => ∃ j : Nat, iv = .int .i64 (j : Int) ∧ Hid (j ≤ l.length ∧ ∀ k (hk : k < l.length), k < j → l[k] ≠ x) ∧ w = wr) (fun iv _ => l.length - (RowKit.intOf iv).toNat)
 case atStart => exact ⟨0, rfl, Lib.hid ⟨Nat.zero_le _, fun k _ hk => absurd hk (Nat.not_lt_zero _)⟩, rfl⟩
 case round =>
  obtain ⟨j, rfl, HJ, hw0⟩ := hrel
  subst hw0
  have hw : IntKind.i64.wrap ((j : Int) + 1) = (j : Int) + 1 := IntWalk.i64_in _ (by have := HJ.out.1; omega)
  by_cases hlt : j < l.length
  ·have hd : decide ((j : Int) < (l.length : Int)) = true := decide_eq_true (by omega)
   obtain ⟨b, o, rfl, a0⟩ : ∃ b o, p = some ⟨b, o, none⟩ ∧ w.cell? ⟨b, o + j, none⟩ = some (.int .i64 l[j]) := by
    rcases HR.out with ⟨a0, cap0, hv, h0, -⟩ | ⟨b, off, cap0, hv, -, -, hc⟩
    ·rw [List.map_eq_nil_iff] at h0
     rw [h0] at hlt
     exact absurd hlt (Nat.not_lt_zero _)
    ·simp only [Value.slice.injEq] at hv
     exact ⟨b, off, hv.1, hc j _ (by rw [List.getElem?_map, List.getElem?_eq_getElem hlt]; rfl)⟩
   by_cases he : l[j] = x
   ·have e1 : (x == l[j]) = true := by simp [he]
    have HE := Lib.hid (idxZ_at hlt he (fun k hk => HJ.out.2 k _ hk))
    clear he
    generalize l[j] = y at *
    go_wp2_with fail
    go_ret
    exact ⟨by rw [HE.out]; rfl, rfl⟩
   ·have e1 : (x == l[j]) = false := by simp; exact fun e => he e.symm
    have HN := Lib.hid (show ∀ k (hk : k < l.length), k < j + 1 → l[k] ≠ x from fun k hk hkj => by
     rcases Nat.lt_succ_iff_lt_or_eq.1 hkj with h | h
     ·exact HJ.out.2 k hk h
     ·subst h; exact he)
    clear he
    generalize l[j] = y at *
    go_wp2_with fail
    go_roundw
    case rel => exact ⟨j + 1, by simp, Lib.hid ⟨by omega, HN.out⟩, trivial⟩
    case measure => simp only [RowKit.intOf]; omega
  ·have hd : decide ((j : Int) < (l.length : Int)) = false := decide_eq_false (by omega)
   have HE := Lib.hid (show idxZ l x = -1 from idxZ_none (fun hm => by
    obtain ⟨k, hk, e⟩ := List.getElem_of_mem hm
    exact HJ.out.2 k hk (by omega) e))
   go_wp2_with fail
   go_ret
   exact ⟨by rw [HE.out]; rfl, rfl⟩
theorem idxZ_mem (l : List Int) (x : Int) : decide (0 ≤ idxZ l x) = decide (x ∈ l) := by
 by_cases h : x ∈ l
 ·rw [decide_eq_true h]
  unfold idxZ
  cases hq : l.findIdx? fun y => decide (y = x) with
  |none =>
   have := List.findIdx?_eq_none_iff.1 hq x h
   simp at this
  |some i => simp
 ·rw [decide_eq_false h, idxZ_none h]
  rfl
end Bds
end Go.Proofs.YtklbemkafdccgaaGreat

/- bodies: slices.Contains at ints; Keep's closure. -/
namespace Go.Proofs.YtklbemkafdccgaaGreat
open Go.RowKit
namespace Bds
open Mp Go.Maps
open Frm (ownsRow_mods ownsRow_keeps ownsRow_form ownsRow_base ownsRow_ne)
set_option maxRecDepth 100000 in
set_option maxHeartbeats 2000000 in
theorem contains_any (w : World) (v : Value) (l : List Int) (hr : Row w v (l.map (.int .i64))) (hl : l.length ≤ 1000000000) (x : Int) : Calls Tryz.prog 87 #[v, .int .i64 x] w fun e w' => e = .returned (.bool (decide (x ∈ l))) ∧ Keeps w w' := by
 have CI := Lib.hid (index_any w v l hr hl x)
 have hx := idxZ_mem l x
 obtain ⟨p, cap, rfl, -, -⟩ := hr.form
 obtain ⟨i, hi⟩ : ∃ z, idxZ l x = z := ⟨_, rfl⟩
 obtain ⟨b, hb⟩ : ∃ z, decide (x ∈ l) = z := ⟨_, rfl⟩
 rw [hi] at CI
 rw [hi, hb] at hx
 rw [hb]
 rw [List.length_map] at CI ⊢
 clear hr hl hi hb
 go_enter Tryz.func87, Tryz.ntmps87
 cases b with
 |true =>
  go_wp2_with fail
  refine CI.out.mono ?_
  rintro e w2 ⟨rfl, rfl⟩
  go_wp2_with fail
  go_ret
  exact ⟨rfl, Keeps.refl _⟩
 |false =>
  go_wp2_with fail
  refine CI.out.mono ?_
  rintro e w2 ⟨rfl, rfl⟩
  go_wp2_with fail
  go_ret
  exact ⟨rfl, Keeps.refl _⟩
/-- what Keep's closure has captured: the bytes so far, the last number -/
structure KpAt (w : World) (base pa pl : Nat) (av : Value) (acc : Str) (last : Int) : Prop where
 a : Blk w pa 51 #[av]
 l : Blk w pl 3 #[.int .i64 last]
 own : Own w base 5 av (acc.map u8v)
 ne : pa ≠ pl
 lt : base ≤ pa ∧ base ≤ pl
def KpDid (W : World) (base pa pl : Nat) (av0 : Value) (acc : Str) (n : Int) (e : Ending) (w' : World) : Prop := e = .returned (.tuple #[]) ∧ ∃ av, KpAt w' base pa pl av acc n ∧ Fresh W av0 av ∧ Mods (fun y => y = pa ∨ y = pl ∨ av0.ownBlock = some y) W w'
set_option maxRecDepth 100000 in
set_option maxHeartbeats 2000000 in
theorem keepCl_any (w : World) (base pa pl : Nat) (av : Value) (acc : Str) (last : Int) (h : KpAt w base pa pl av acc last) (hacc : acc.length ≤ 1000000000) (n : Int) (hn : 1 ≤ n ∧ n ≤ 2147483648) (v : Value) (b : Str) (hr : Row w v (b.map u8v)) (hb : b.length ≤ 32768) (hfl : (frB (n, b)).length ≤ 1000000000) :
  Calls Tryz.prog 86 #[.int .i64 n, v, .pointer (some ⟨pa, 0, none⟩), .pointer (some ⟨pl, 0, none⟩)] w (KpDid w base pa pl av (acc ++ frB (n, b)) n) := by
 rw [show frB (n, b) = Rcd.frmL (bdRec n b) from rfl] at hfl ⊢
 have HCH := Lib.hid (chk_bd hn.1 hn.2 hb)
 have CFr := Lib.hid (Rcd.frame_any (bdRec n b) v w hr)
 rw [HCH.out] at CFr
 obtain ⟨F9, hF9⟩ : ∃ z, Rcd.frmL (bdRec n b) = z := ⟨_, rfl⟩
 rw [hF9] at hfl CFr ⊢
 obtain ⟨p, cap, rfl, -, -⟩ := hr.form
 obtain ⟨ap, ac, hav, -, -⟩ := h.own.row.form
 subst hav
 rw [List.length_map] at CFr ⊢
 rw [List.length_map] at h ⊢
 unfold Rcd.recA bdRec at CFr
 simp only at CFr
 have H := Lib.hid h
 have HL := Lib.hid (And.intro hacc hfl)
 clear h hacc hn hr hb hfl hF9
 go_enter Tryz.func86, Tryz.ntmps86
 go_wp2_with fail
 refine CFr.out.mono ?_
 rintro e w2 ⟨fv, rfl, ho, hk⟩
 obtain ⟨fp, fc, rfl, -, -⟩ := ownsRow_form ho
 rw [List.length_map] at ho ⊢
 have HFO := Lib.hid ho
 have HA := Lib.hid (H.out.a.keeps hk)
 have HB := Lib.hid (H.out.l.keeps hk)
 have HO := Lib.hid (H.out.own.keeps hk)
 have HK := Lib.hid hk
 have HNE := Lib.hid (And.intro H.out.ne H.out.lt)
 have a0 : w2.cell? ⟨pa, 0, none⟩ = some (.slice ap acc.length ac) := by rw [HA.out.cell]; rfl
 have HBS := Lib.hid (show base ≤ w2.heap.size from by have h1 := HNE.out.2.1; have h2 := HA.out.lt; omega)
 clear ho hk CFr HCH H
 go_upto_region 2 with (first | fail | (at_builtin; refine wpList_app1 (base := base) Oct.u8ok rfl _ _ rfl (.slice ap acc.length ac) (.slice fp F9.length fc) (acc.map u8v) (F9.map u8v) rfl rfl HO.out HFO.out.row (oneCell_map_u8 _) (by rw [List.length_map, List.length_map]; have := HL.out; omega) (by decide) HBS.out ?_; intro v9 w9 ho9 hg9 hf9; obtain ⟨p9, n9, c9, rfl⟩ := ho9.sl; have H9 := Lib.hid ho9; have HG9 := Lib.hid hg9; have HF9 := Lib.hid hf9; have HA9 := Lib.hid (HA.out.grown hg9 (ownsRow_ne HO.out HA.out (by decide))); have y9 : w9.frozen? ⟨pa, 0, none⟩ = false := HA9.out.frozen 0; have x9 : w9.cell? ⟨pa, 0, none⟩ = some (.slice ap acc.length ac) := (by rw [HA9.out.cell]; rfl); clear ho9 hg9 hf9))
 have HA10 := Lib.hid (HA9.out.set_ 0 (.slice p9 n9 c9))
 have HB9 := Lib.hid (HB.out.grown HG9.out (ownsRow_ne HO.out HB.out (by decide)))
 have HM9 := Lib.hid ((Mods.refl (· = pa) w9).setCell (p := ⟨pa, 0, none⟩) (fun _ => rfl) (.slice p9 n9 c9))
 clear a0 y9 x9
 generalize World.setCell w9 _ _ = w10 at *
 have HB10 := Lib.hid (HB9.out.mods HM9.out (fun e => HNE.out.1 e.symm))
 have HO10 := Lib.hid (ownsRow_mods H9.out HM9.out (fun y hy e => ownsRow_ne H9.out HA9.out (by decide) (by rw [hy, e])))
 have x1 : w10.cell? ⟨pl, 0, none⟩ = some (.int .i64 last) := by rw [HB10.out.cell]; rfl
 have y1 : w10.frozen? ⟨pl, 0, none⟩ = false := HB10.out.frozen 0
 go_wp2_with fail
 have hm := (Mods.refl (· = pl) w10).setCell (p := ⟨pl, 0, none⟩) (fun _ => rfl) (.int .i64 n)
 refine bodyPost_end (v := .tuple #[]) (by simp [results, Tryz.results86, go_sem]) rfl ?_
 refine ⟨rfl, .slice p9 n9 c9, ⟨HA10.out.mods hm (fun e => HNE.out.1 e), HB10.out.set_ 0 (.int .i64 n), ?_, HNE.out.1, HNE.out.2⟩, fun y hy => ?_, ?_⟩
 ·have h1 : Own w10 base 5 (.slice p9 n9 c9) ((acc ++ F9).map u8v) := by rw [List.map_append]; exact HO10.out
  exact ownsRow_mods h1 hm (fun y hy e => ownsRow_ne h1 HB10.out (by decide) (by rw [hy, e]))
 ·rcases HF9.out y hy with h1 | h1
  ·exact .inl h1
  ·exact .inr (Nat.le_trans HK.out.size h1)
 ·refine (((Mods.of_keeps HK.out).grown HG9.out (fun y hy _ => .inr (.inr hy))).trans HM9.out (fun y hy _ => ?_)).trans hm (fun y hy _ => ?_)
  ·exact .inl hy
  ·exact .inr (.inl hy)
end Bds
end Go.Proofs.YtklbemkafdccgaaGreat

/- bodies: Keep. -/
namespace Go.Proofs.YtklbemkafdccgaaGreat
open Go.RowKit
namespace Bds
open Mp Go.Maps Go.Sort
open Vd (DiskAt Dsk On Few More)
open Sf (Says Tells Stays sSwap)
open Frm (ownsRow_mods ownsRow_keeps ownsRow_form ownsRow_base)
theorem numsUp_of {s : BdP} (h : (keysB s).Pairwise (· < ·)) : numsUp s = keysB s := by
 unfold numsUp
 refine List.mergeSort_of_pairwise (h.imp fun {a b} hab => ?_)
 simp only [Go.leI, decide_eq_true_eq]
 omega
section
variable {w w' : World} {O O' : Nat → Prop} {g g' b1 b2 gd n m : Nat} {s : BdP} {nv : List NumX} {av : List AlkX}
/-- the store, copied over an elder one -/
theorem StIn.copy (h : StIn w O g' b1 b2 gd n s nv av) (hm : Mods (· = g) w w') (hg : ¬ O g) (hb : Blk w' g 151 #[.pointer (some ⟨gd, 0, none⟩), .int .i64 s.next, .int .i64 s.broken, .map (some b1), .map (some b2)]) : StAt w' (fun y => y = g ∨ O y) g gd n s := by
 have h2 := h.mods hm (fun y hy e => hg (e ▸ hy))
 exact ⟨b1, b2, nv, av, { h2 with blk := hb, ro := fun x hx hne a ha => .inr (h2.ro x hx hne a ha), ao := fun x hx y hy => .inr (h2.ao x hx y hy), og := ⟨.inl rfl, .inr h2.og.2.1, .inr h2.og.2.2⟩ }⟩
end
section
variable {L : List Nat} {W w4 w5 w6 : World} {S O : Nat → Prop} {g g' b1 b2 gd n m k : Nat} {s s' : BdP} {d : Dsk} {nv : List NumX} {av : List AlkX}
/-- a store that was loaded anew, copied over the elder one -/
theorem BdX.reload (h : BdX L W w4 g gd n s d k S O) (hk : Keeps w4 w5) (hst : StIn w5 (Since w4 w5) g' b1 b2 gd m s' nv av) (hm : Mods (· = g) w5 w6) (hB : Blk w6 g 151 #[.pointer (some ⟨gd, 0, none⟩), .int .i64 s'.next, .int .i64 s'.broken, .map (some b1), .map (some b2)]) : BdAt L W w6 g gd m s' d k := by
 obtain ⟨_, _, _, _, hin⟩ := h.st
 have hg := hin.og.1
 have hgl := h.lo g hg
 have h5 := hk.size
 have h6 := hm.size
 refine ⟨S, _, (h.dsk.keeps hk).apart hm (fun y hy e => (h.ls y hy).2.2.2 (by rw [e]; exact hg)), hst.copy hm (fun e => by have := e.1; omega) hB, fun y hy => ?_, fun y hy => ?_, fun y hy => ?_, hm.keeps (h.keep.trans hk) (fun y hy => by rw [hy]; exact hgl.1), h.few⟩
 ·have h1 := h.ls y hy
  refine ⟨h1.1, by omega, h1.2.2.1, fun e => ?_⟩
  rcases e with e | e
  ·exact h1.2.2.2 (by rw [e]; exact hg)
  ·have := e.1; omega
 ·rcases hy with rfl | hy
  ·exact ⟨hgl.1, by omega, hgl.2.2⟩
  ·have := h.keep.size
   exact ⟨by have := hy.1; omega, by have := hy.2; omega, fun hl => by have h1 := h.ll y hl; have := hy.1; omega⟩
 ·have := h.ll y hy; omega
end
theorem fndL_len (l : List UInt8) : (Rcd.fndL (Frm.scanR l).1).length ≤ l.length := by
 have h1 : ∀ fs : List Frm.Fr1, (Rcd.fndL fs).length ≤ fs.length := fun fs => by
  induction fs with
  |nil => exact Nat.le_refl _
  |cons f fs ih =>
   unfold Rcd.fndL at ih ⊢
   rw [List.flatMap_cons, List.length_append, List.length_cons]
   have : (Rcd.fndOf f).length ≤ 1 := by
    unfold Rcd.fndOf
    split <;> simp
   omega
 exact Nat.le_trans (h1 _) (Frm.scanN_count l l.length 0 0).1
theorem stM5 : Mids Tryz.prog 151 5 := ⟨⟨_, Tryz.underlying151, rfl⟩, by kernel_rfl⟩
section
variable {P : Program} {w : World} {b : Nat} {t t' : TypeId} {cs : Array Value}
theorem step_ld {ops : Array Oper} {op : Oper} {a : Act} {K : Act → World → Prop} {Q : Exit → Act → World → Prop} {E : Prop} (hgd : op.guard = none) (m : Mids P t cs.size) (h : Blk w b t' cs) (x : Operand) (ho : op.op = .load t x) (hx : a.eval x = .pointer (some ⟨b, 0, none⟩))
  (k : K (a.put op.dst (.agg cs)) w) : if Region.wanted op (yielded ops a.tmps) = true then Oper.wp P op a w K Q else E := by
 have hw : Region.wanted op (yielded ops a.tmps) = true := by simp [Region.wanted, hgd]
 rw [if_pos hw]
 obtain ⟨d, hd, hr⟩ := m.u
 refine wp_load_mid t x ho b 0 hx cs.toList d h.range hd hr (by rw [m.i, Array.length_toList]) ?_
 rw [Array.toArray_toList]
 exact k
end
/-- where Keep's loop stands -/
structure KpIs (w0 w3 wr : World) (pa pl : Nat) (s : BdP) (l : List Int) (j o : Nat) (av : Value) : Prop where
 le : j ≤ s.L.length
 sum : o + ((s.L.take j).filter (inB s.next l)).length = j
 at_ : KpAt wr w0.heap.size pa pl av (framesB ((s.L.take j).filter (inB s.next l))) (lastB ((s.L.take j).filter (inB s.next l)))
 mods : Mods (fun y => y = pa ∨ y = pl) w3 wr
 fresh : ∀ y, av.ownBlock = some y → w3.heap.size ≤ y
theorem KpIs.out {w0 w3 wr : World} {pa pl : Nat} {s : BdP} {l : List Int} {j o : Nat} {av : Value} (h : KpIs w0 w3 wr pa pl s l j o av) (hj : j < s.L.length) (hn : inB s.next l s.L[j] = false) : KpIs w0 w3 wr pa pl s l (j + 1) (o + 1) av := by
 have e := stay_step (p := inB s.next l) hj
 rw [hn, if_neg (by simp), List.append_nil] at e
 exact ⟨hj, by rw [e]; have := h.sum; omega, by rw [e]; exact h.at_, h.mods, h.fresh⟩
theorem KpIs.put {w0 w3 wr wx : World} {pa pl : Nat} {s : BdP} {l : List Int} {j o : Nat} {av : Value} (h : KpIs w0 w3 wr pa pl s l j o av) (hj : j < s.L.length) (hn : inB s.next l s.L[j] = true) {e : Ending} (hd : KpDid wr w0.heap.size pa pl av (framesB ((s.L.take j).filter (inB s.next l)) ++ frB s.L[j]) s.L[j].1 e wx) : e = .returned (.tuple #[]) ∧ ∃ av', KpIs w0 w3 wx pa pl s l (j + 1) o av' := by
 have e2 := stay_step (p := inB s.next l) hj
 rw [hn, if_pos rfl] at e2
 obtain ⟨he, av', ha, hf, hm⟩ := hd
 have hs := h.mods.size
 refine ⟨he, av', hj, ?_, ?_, h.mods.trans hm (fun y hy hlt => ?_), fun y hy => ?_⟩
 ·rw [e2, List.length_append, List.length_singleton]; have := h.sum; omega
 ·rw [e2, framesB_snoc, lastB_snoc]; exact ha
 ·rcases hy with hy | hy | hy
  ·exact .inl hy
  ·exact .inr hy
  ·have := h.fresh y hy; omega
 ·rcases hf y hy with h1 | h1
  ·exact h.fresh y h1
  ·omega
theorem KpAt.keeps {w w' : World} {base pa pl : Nat} {av : Value} {acc : Str} {last : Int} (h : KpAt w base pa pl av acc last) (hk : Keeps w w') : KpAt w' base pa pl av acc last :=
 ⟨h.a.keeps hk, h.l.keeps hk, h.own.keeps hk, h.ne, h.lt⟩
theorem KpIs.keeps {w0 w3 wr wx : World} {pa pl : Nat} {s : BdP} {l : List Int} {j o : Nat} {av : Value} (h : KpIs w0 w3 wr pa pl s l j o av) (hk : Keeps wr wx) : KpIs w0 w3 wx pa pl s l j o av :=
 ⟨h.le, h.sum, h.at_.keeps hk, h.mods.then hk, h.fresh⟩
theorem framesB_mem {M : List (Int × Str)} {x : Int × Str} (h : x ∈ M) : (frB x).length ≤ (framesB M).length := by
 obtain ⟨A, B, rfl⟩ := List.append_of_mem h
 unfold framesB
 rw [List.flatMap_append, List.flatMap_cons, List.length_append, List.length_append]
 omega
theorem framesB_take (M : List (Int × Str)) (j : Nat) : (framesB (M.take j)).length ≤ (framesB M).length := by
 have h := framesB_app (M.take j) (M.drop j)
 rw [List.take_append_drop] at h
 rw [h, List.length_append]
 omega
def KeepDid (L : List Nat) (W w : World) (g gd n k : Nat) (s : BdP) (d : Dsk) (l : List Int) (e : Ending) (w' : World) : Prop :=
 (outB s l = 0 ∧ e = .returned (.tuple #[.int .i64 0, .int .i64 0]) ∧ Keeps w w') ∨
 (outB s l ≠ 0 ∧ e = .returned (.tuple #[.int .i64 (outB s l : Int), .int .i64 0]) ∧ ∃ n', n' ≤ (framesB (fullB s l)).length ∧ BdRest L W w g gd n' (keptB s l) (sSwap nmB (framesB (fullB s l)) d).1 (k + 10) w')
section
variable {L : List Nat} {W w : World} {g gd n k : Nat} {s : BdP} {d : Dsk}
set_option maxRecDepth 100000 in
set_option maxHeartbeats 8000000 in
theorem keep_any (h : BdAt L W w g gd n s d k) (hk : k ≤ 80000) (hn : n ≤ 1000000) (hup : Up s) (hsl : s.L.length ≤ 900000) (hb : ∀ x ∈ s.L, x.2.length ≤ 32768) (hfb : (framesB s.L).length ≤ 700000) (hbr : s.broken = 0) {v : Value} {l : List Int} (hr : Row w v (l.map (.int .i64))) (hl : l.length ≤ 1000000000) (hd : outB s l ≠ 0 → (sSwap nmB (framesB (fullB s l)) d).2 = 0) :
  Calls Tryz.prog 31 #[.pointer (some ⟨g, 0, none⟩), v] w (KeepDid L W w g gd n k s d l) := by
 obtain ⟨S, O, hx⟩ := h
 have HX := Lib.hid hx
 have HUP := Lib.hid hup
 have HB := Lib.hid hb
 have HFB := Lib.hid hfb
 have HBR := Lib.hid hbr
 have HR := Lib.hid hr
 have HL := Lib.hid hl
 have HD := Lib.hid hd
 have HK := Lib.hid hk
 have HSL := Lib.hid hsl
 have HN := Lib.hid hn
 obtain ⟨p, cap, rfl, -, -⟩ := hr.form
 rw [List.length_map] at HR ⊢
 clear hx hup hb hfb hbr hr hl hd hk hsl hn
 go_enter Tryz.func31, Tryz.ntmps31
 go_upto_region 3 with fail
 generalize hW : World.alloc (World.alloc w _) _ = w1
 obtain ⟨pa, hpa⟩ : ∃ z, z = w.heap.size := ⟨_, rfl⟩
 obtain ⟨pl, hpl⟩ : ∃ z, z = w.heap.size + 1 := ⟨_, rfl⟩
 have HP := Lib.hid (And.intro hpa hpl)
 have HK1 := Lib.hid (show Keeps w w1 from by rw [← hW]; exact ((Keeps.refl _).alloc _).alloc _)
 have HA0 := Lib.hid (show Blk w1 pa 51 #[.slice none 0 0] from by rw [← hW, hpa]; exact (Blk.new _ _ _ rfl).alloc _)
 have HL0 := Lib.hid (show Blk w1 pl 3 #[.int .i64 0] from by rw [← hW, hpl]; exact Blk.new _ _ _ (by rw [Frm.alloc_size]))
 rw [← hpa]
 rw [show pa + 1 = pl from by rw [hpa, hpl]]
 clear hW hpa hpl
 have CN := Lib.hid (numbers_any (HX.out.keeps HK1.out).st HN.out)
 go_wp2_with fail
 refine CN.out.mono ?_
 rintro e w3 ⟨nv, rfl, ho, hk3⟩
 rw [numsUp_of HUP.out.asc] at ho
 obtain ⟨np, nc, rfl, -, -⟩ := ho.row.form
 rw [List.length_map, show (keysB s).length = s.L.length from List.length_map _] at ho ⊢
 have HNO := Lib.hid ho
 have HK3 := Lib.hid hk3
 have HIS0 := Lib.hid (show KpIs w w3 w3 pa pl s l 0 0 (.slice none 0 0) from ⟨Nat.zero_le _, rfl, ⟨HA0.out.keeps hk3, HL0.out.keeps hk3, World.ownsRow_nil _ _ _ _, by have := HP.out; omega, by have := HP.out; omega⟩, Mods.refl _ _, fun y hy => by simp [Value.ownBlock] at hy⟩)
 have HNB := Lib.hid (show ∀ y, (Value.slice np s.L.length nc).ownBlock = some y → y ≠ pa ∧ y ≠ pl from fun y hy => by
  have h1 := ownsRow_base ho y hy
  have h2 := HA0.out.lt
  have h3 := HL0.out.lt
  omega)
 clear ho hk3 CN HA0 HL0
 go_wp2_with fail
 go_loopw [7, 17] (fun ov iv wr => ∃ (j o : Nat) (av : Value), ov = .int .i64 (o : Int) ∧ iv = .int .i64 (j : Int) ∧ Hid (KpIs w w3 wr pa pl s l j o av)) (fun _ iv _ => s.L.length - (RowKit.intOf iv).toNat)
 case atStart => exact ⟨0, 0, _, rfl, rfl, HIS0⟩
 case round =>
  obtain ⟨j, o, av, rfl, rfl, HIS⟩ := hrel
  obtain ⟨wz, rfl⟩ : ∃ z : World, z = wr := ⟨_, rfl⟩
  have HKZ := Lib.hid (show Keeps w wz from HIS.out.mods.keeps (HK1.out.trans HK3.out) (fun y hy => by have := HP.out; omega))
  by_cases hlt : j < s.L.length
  ·have hd : decide ((j : Int) < (s.L.length : Int)) = true := decide_eq_true (by omega)
   have hwj : IntKind.i64.wrap ((j : Int) + 1) = (j : Int) + 1 := IntWalk.i64_in _ (by have := HSL.out; omega)
   have hwo : IntKind.i64.wrap ((o : Int) + 1) = (o : Int) + 1 := IntWalk.i64_in _ (by have := HSL.out; have := HIS.out.sum; omega)
   have hwn : IntKind.i64.wrap (s.next - 1) = s.next - 1 := IntWalk.i64_in _ (by have := HUP.out.nx; omega)
   have HNZ : Own wz w1.heap.size 3 (.slice np s.L.length nc) ((keysB s).map encZ) := ownsRow_mods HNO.out HIS.out.mods (fun y hy hs => by
    have := HNB.out y hy
    omega)
   obtain ⟨ga, ca', hv, -, -, -⟩ := Own.form HNZ (by simp [keysB]; omega)
   simp only [List.length_map, Value.slice.injEq] at hv
   obtain ⟨rfl, -, rfl⟩ := hv
   have a0 : wz.cell? ⟨ga, j, none⟩ = some (.int .i64 s.L[j].1) := Own.cellAt HNZ j _ (by simp [keysB, List.getElem?_eq_getElem hlt, encZ])
   have hmem := List.getElem_mem hlt
   have HPT := Lib.hid (fun wc (hk : Keeps wz wc) e wx h1 hd => (HIS.out.keeps hk).put hlt (e := e) (wx := wx) h1 hd)
   have HOT := Lib.hid (fun wc (hk : Keeps wz wc) h1 => (HIS.out.keeps hk).out hlt h1)
   have HBO := Lib.hid (show bodyOf s.L s.L[j].1 = some s.L[j].2 from HUP.out.body.2 hmem)
   have HBD := Lib.hid (show 1 ≤ s.L[j].1 ∧ s.L[j].1 ≤ 2147483648 from by have h1 := HUP.out.pos _ hmem; have h2 := HUP.out.nx; omega)
   have HBL := Lib.hid (HB.out _ hmem)
   have HFL := Lib.hid (show (frB s.L[j]).length ≤ 700000 from Nat.le_trans (framesB_mem hmem) HFB.out)
   have HAL := Lib.hid (show (framesB ((s.L.take j).filter (inB s.next l))).length ≤ 700000 from Nat.le_trans (framesB_sub _) (Nat.le_trans (framesB_take _ _) HFB.out))
   have HIN := Lib.hid (show inB s.next l s.L[j] = (decide (s.L[j].1 ∈ l) || !(decide (s.L[j].1 < s.next - 1) || decide (0 < s.L[j].2.length))) from rfl)
   clear hmem HNZ
   generalize s.L[j] = x at *
   obtain ⟨xn, xb⟩ := x
   simp only at a0 HBO HBD HBL HIN
   have CC := Lib.hid (contains_any wz _ l (HR.out.keeps HKZ.out) HL.out xn)
   go_wp2_with fail
   refine CC.out.mono ?_
   rintro e wc ⟨rfl, hkc⟩
   have HKC := Lib.hid hkc
   have HXC := Lib.hid (HX.out.keeps (HKZ.out.trans hkc))
   obtain ⟨b1, b2, nv', av', hin⟩ := HXC.out.st
   obtain ⟨c0, c1, c2, c3, c4⟩ := hin.cells
   obtain ⟨⟨up, un, uc⟩, -, hrun, hrow⟩ := hin.look (x := xn) (by have := HBD.out; simp [Lit.wf, IntKind.min, IntKind.max, IntKind.signed, IntKind.bits]; omega)
   rw [HBO.out] at hrow
   unfold SlQ.v at hrun hrow
   simp only [Option.getD_some] at hrow
   obtain ⟨_, _, hu, -, -⟩ := hrow.form
   simp only [List.length_map, Value.slice.injEq] at hu
   obtain ⟨-, rfl, -⟩ := hu
   have HCL := Lib.hid (keepCl_any wc w.heap.size pa pl av _ _ (HIS.out.at_.keeps hkc) (by have := HAL.out; omega) xn HBD.out _ xb hrow HBL.out (by have := HFL.out; omega))
   have HE : ∀ (a b c d : Value) (w : World), (callFunc 86 #[a, b, c, d]).run Tryz.prog w = .ok (.enter 86 #[a, b, c, d]) w := fun a b c d w => enters_of Tryz.func86 (by kernel_rfl) rfl _ _
   clear hin hrow hkc CC a0
   by_cases hm : xn ∈ l
   ·have hm1 : decide (xn ∈ l) = true := decide_eq_true hm
    have HI1 := Lib.hid (show inB s.next l (xn, xb) = true from by rw [HIN.out, hm1]; rfl)
    clear hm
    go_wp2_with fail
    refine HCL.out.mono ?_
    intro e wd hd2
    obtain ⟨rfl, av2, h2⟩ := HPT.out wc HKC.out _ _ HI1.out hd2
    go_wp2_with fail
    go_roundw
    case rel => exact ⟨j + 1, o, av2, rfl, by simp, Lib.hid h2⟩
    case measure => simp only [RowKit.intOf]; omega
   ·have hm1 : decide (xn ∈ l) = false := decide_eq_false hm
    clear hm
    by_cases hn1 : xn < s.next - 1
    ·have hn2 : decide (xn < s.next - 1) = true := decide_eq_true hn1
     have HI1 := Lib.hid (show inB s.next l (xn, xb) = false from by rw [HIN.out, hm1, hn2]; rfl)
     clear hn1
     go_wp2_with fail
     go_roundw
     case rel => exact ⟨j + 1, o + 1, av, by simp, by simp, Lib.hid (HOT.out wc HKC.out HI1.out)⟩
     case measure => simp only [RowKit.intOf]; omega
    ·have hn2 : decide (xn < s.next - 1) = false := decide_eq_false hn1
     clear hn1
     by_cases hb0 : 0 < xb.length
     ·have hb2 : decide ((0 : Int) < (xb.length : Int)) = true := decide_eq_true (by omega)
      have HI1 := Lib.hid (show inB s.next l (xn, xb) = false from by rw [HIN.out, hm1, hn2, decide_eq_true hb0]; rfl)
      go_wp2_with fail
      go_roundw
      case rel => exact ⟨j + 1, o + 1, av, by simp, by simp, Lib.hid (HOT.out wc HKC.out HI1.out)⟩
      case measure => simp only [RowKit.intOf]; omega
     ·have hb2 : decide ((0 : Int) < (xb.length : Int)) = false := decide_eq_false (by omega)
      have HI1 := Lib.hid (show inB s.next l (xn, xb) = true from by rw [HIN.out, hm1, hn2, decide_eq_false hb0]; rfl)
      go_wp2_with fail
      refine HCL.out.mono ?_
      intro e wd hd2
      obtain ⟨rfl, av2, h2⟩ := HPT.out wc HKC.out _ _ HI1.out hd2
      go_wp2_with fail
      go_roundw
      case rel => exact ⟨j + 1, o, av2, rfl, by simp, Lib.hid h2⟩
      case measure => simp only [RowKit.intOf]; omega
  ·have hd : decide ((j : Int) < (s.L.length : Int)) = false := decide_eq_false (by omega)
   have hj : j = s.L.length := by have := HIS.out.le; omega
   have HST := Lib.hid (show KpAt wz w.heap.size pa pl av (framesB (stayB s l)) (lastB (stayB s l)) from by
    have h1 := HIS.out.at_
    rw [hj, List.take_length] at h1
    exact h1)
   have HOU := Lib.hid (show o = outB s l from by
    have h1 := HIS.out.sum
    rw [hj, List.take_length] at h1
    unfold outB stayB
    omega)
   have HMZ := Lib.hid HIS.out.mods
   have HFZ := Lib.hid HIS.out.fresh
   clear hj HIS
   obtain ⟨b1, b2, nv', av', hin⟩ := (HX.out.keeps HKZ.out).st
   obtain ⟨c0, c1, c2, c3, c4⟩ := hin.cells
   rw [HBR.out] at c2
   clear hin
   by_cases ho : o = 0
   ·subst ho
    go_wp2_with fail
    go_ret2
    exact .inl ⟨HOU.out.symm, rfl, HKZ.out⟩
   ·have ho1 : ((o : Int) == 0) = false := by simp [ho]
    have HD := Lib.hid (HD.out (by rw [← HOU.out]; exact ho))
    have hwn : IntKind.i64.wrap (s.next - 1) = s.next - 1 := IntWalk.i64_in _ (by have := HUP.out.nx; omega)
    have l0 : wz.cell? ⟨pl, 0, none⟩ = some (.int .i64 (lastB (stayB s l))) := by rw [HST.out.l.cell]; rfl
    go_upto_region 13 with fail
    go_quiet (fail)
    have HKD := Lib.hid (show Keeps wz (wz.drewN nq) from Keeps.drewN (Keeps.refl _) _)
    generalize World.drewN wz nq = wq at *
    have HSQ := Lib.hid (HST.out.keeps HKD.out)
    have HMQ := Lib.hid (HMZ.out.then HKD.out)
    have HKQ := Lib.hid (HKZ.out.trans HKD.out)
    clear c0 c1 c2 c3 c4 l0 HST HMZ HKZ HKD
    go_upto_if 71 with fail
    go_cut [] (fun wx => ∃ av2 last2, Hid (KpAt wx w.heap.size pa pl av2 (framesB (fullB s l)) last2 ∧ Mods (fun y => y = pa ∨ y = pl) w3 wx ∧ ∀ y, av2.ownBlock = some y → w3.heap.size ≤ y))
    case first =>
     by_cases hlst : lastB (stayB s l) < s.next - 1
     ·have hl1 : decide (lastB (stayB s l) < s.next - 1) = true := decide_eq_true hlst
      have HFL := Lib.hid (show framesB (fullB s l) = framesB (stayB s l) ++ frB (s.next - 1, []) from by
       unfold fullB
       rw [if_pos hlst, framesB_snoc])
      have hL : s.L ≠ [] := fun e => by
       have := HOU.out
       unfold outB at this
       rw [e] at this
       simp at this
       omega
      have HN1 := Lib.hid (show 1 ≤ s.next - 1 ∧ s.next - 1 ≤ 2147483648 from by
       obtain ⟨y, hy⟩ := List.exists_mem_of_ne_nil _ hL
       have h1 := HUP.out.pos y hy
       have h2 := HUP.out.nx
       omega)
      have HAL := Lib.hid (show (framesB (stayB s l)).length ≤ 700000 from Nat.le_trans (framesB_sub _) HFB.out)
      have HCL := Lib.hid (keepCl_any wq w.heap.size pa pl av _ _ HSQ.out (by have := HAL.out; omega) (s.next - 1) HN1.out (.slice none 0 0) [] (row_nil _) (by decide) (by have := frB_len (x := (s.next - 1, [])) (N := 0) (Nat.le_refl 0) (by omega); omega))
      rw [← HFL.out] at HCL
      have HE : ∀ (a b c d : Value) (w : World), (callFunc 86 #[a, b, c, d]).run Tryz.prog w = .ok (.enter 86 #[a, b, c, d]) w := fun a b c d w => enters_of Tryz.func86 (by kernel_rfl) rfl _ _
      obtain ⟨b1, b2, nv', av', hin⟩ := (HX.out.keeps HKQ.out).st
      have c1 := hin.cells.2.1
      clear hin hL
      go_wp2_with fail
      refine HCL.out.mono ?_
      rintro e wd ⟨rfl, av2, h2, hf2, hm2⟩
      go_wp2_with fail
      go_meet
      refine ⟨av2, _, Lib.hid ⟨h2, HMQ.out.trans hm2 (fun y hy hlt => ?_), fun y hy => ?_⟩⟩
      ·rcases hy with hy | hy | hy
       ·exact .inl hy
       ·exact .inr hy
       ·have := HFZ.out y hy; omega
      ·have hs := HMQ.out.size
       rcases hf2 y hy with h1 | h1
       ·exact HFZ.out y h1
       ·omega
     ·have hl1 : decide (lastB (stayB s l) < s.next - 1) = false := decide_eq_false hlst
      have HFL := Lib.hid (show framesB (fullB s l) = framesB (stayB s l) from by
       unfold fullB
       rw [if_neg hlst])
      go_wp2_with fail
      go_meet
      exact ⟨av, _, Lib.hid ⟨by rw [HFL.out]; exact HSQ.out, HMQ.out, HFZ.out⟩⟩
    case rest =>
    obtain ⟨av2, last2, HC⟩ := hcut
    obtain ⟨wp, rfl⟩ : ∃ z : World, z = wc := ⟨_, rfl⟩
    clear HSQ HMQ HKQ HFZ
    have hL : s.L ≠ [] := fun e => by
     have := HOU.out
     unfold outB at this
     rw [e] at this
     simp at this
     omega
    have HFU := Lib.hid (show (framesB (fullB s l)).length ≤ 707000 from by
     unfold fullB
     have h1 := framesB_sub (p := inB s.next l) s.L
     have h2 := HFB.out
     have h3 := frB_len (x := (s.next - 1, [])) (N := 0) (Nat.le_refl 0) (by omega)
     split
     ·rw [framesB_snoc, List.length_append]
      unfold stayB
      omega
     ·unfold stayB
      omega)
    have HLD := Lib.hid (HUP.out.load (l := l) HB.out hL)
    have HPK := Lib.hid HC.out.1
    have HKP := Lib.hid (show Keeps w wp from HC.out.2.1.keeps (HK1.out.trans HK3.out) (fun y hy => by have := HP.out; omega))
    have HFR := Lib.hid HC.out.2.2
    have HBS := Lib.hid (show w.heap.size ≤ w3.heap.size from (HK1.out.trans HK3.out).size)
    obtain ⟨ap, ac, hav, -, -⟩ := HPK.out.own.row.form
    subst hav
    rw [List.length_map] at HPK HFR
    obtain ⟨F, hF⟩ : ∃ z, framesB (fullB s l) = z := ⟨_, rfl⟩
    have HF := Lib.hid hF
    rw [hF] at HD HFU HLD HPK HFR
    have HXD := Lib.hid (HX.out.keeps (HKP.out.drew))
    have HKWD := Lib.hid (show Keeps w wp.drew from HKP.out.drew)
    have HPD := Lib.hid (HPK.out.keeps (Keeps.refl wp).drew)
    obtain ⟨b1, b2, nv', av', hin⟩ := (HX.out.keeps HKP.out).st
    have c0 := hin.cells.1
    have a0 : wp.cell? ⟨pa, 0, none⟩ = some (.slice ap F.length ac) := by rw [HPK.out.a.cell]; rfl
    clear hin hF hL HC HPK
    go_upto_region 15 with fail
    go_still_tail 5, (by kernel_rfl)
    change wpList _ _ _ _ _ (World.drew _)
    have HS := Lib.hid (show Stays S wp.drew (.slice ap F.length ac) (F.map u8v) from fun w9 hm => by
     have h9 : Own w9 w.heap.size 5 (.slice ap F.length ac) (F.map u8v) := ownsRow_mods HPD.out.own hm (fun y hy hs => by have h1 := HFR.out y hy; have h2 := (HX.out.ls y hs).2.1; have h3 := HBS.out; omega)
     exact h9.row)
    have CA := Lib.hid (show Calls Tryz.prog 88 #[.pointer (some ⟨gd, 0, none⟩), .string ⟨#[98, 111, 100, 105, 101, 115]⟩, .slice ap F.length ac] wp.drew (Says (Tells S wp.drew gd (sSwap nmB F d) (k + 10))) from
     Sf.sswap_on HXD.out.on (by have := HK.out; omega) (x := nmB) (by decide) HS.out (by have := HFU.out; omega))
    obtain ⟨⟨d', er⟩, hrr⟩ : ∃ z, sSwap nmB F d = z := ⟨_, rfl⟩
    have HRR := Lib.hid hrr
    rw [hrr] at CA HD
    obtain rfl : er = 0 := HD.out
    clear hrr
    clear c0 a0
    generalize wp.drew = wd at *
    go_wp2_with fail
    refine CA.out.mono ?_
    rintro e w4 ⟨c, rfl, hc, hon⟩
    obtain rfl : c = 0 := hc
    have HX4 := Lib.hid (HXD.out.rest hon)
    have HM4 := Lib.hid hon.mods
    have HP4 := Lib.hid (show Blk w4 pa 51 #[.slice ap F.length ac] from HPD.out.a.mods hon.mods (fun hy => by have h2 := (HX.out.ls pa hy).2.1; have h3 := HP.out; omega))
    have HRW := Lib.hid (HS.out w4 hon.mods)
    have HPG := Lib.hid (show pa ≠ g from fun e => by
     obtain ⟨_, _, _, _, hin⟩ := HX.out.st
     have h1 := (HX.out.lo g hin.og.1).2.1
     have h2 := HP.out
     omega)
    have CL := Lib.hid (load_any w4.drew gd _ F (HRW.out.keeps (Keeps.refl w4).drew) (by have := HFU.out; omega))
    unfold LoadDid at CL
    rw [HLD.out] at CL
    have a4 : w4.cell? ⟨pa, 0, none⟩ = some (.slice ap F.length ac) := by rw [HP4.out.cell]; rfl
    have HC4 := Lib.hid (show w4.drew.cell? ⟨g, 0, none⟩ = some (.pointer (some ⟨gd, 0, none⟩)) from by
     obtain ⟨_, _, _, _, hin⟩ := (HX4.out.keeps (Keeps.refl w4).drew).st
     exact hin.cells.1)
    have HG4 := Lib.hid (show ∃ cs : Array Value, cs.size = 5 ∧ Blk w4.drew g 151 cs from by
     obtain ⟨_, _, _, _, hin⟩ := (HX4.out.keeps (Keeps.refl w4).drew).st
     exact ⟨_, rfl, hin.blk⟩)
    have hwo : IntKind.i64.wrap (o : Int) = (o : Int) := IntWalk.i64_in _ (by have := HOU.out; unfold outB at this; have := HSL.out; omega)
    have HKW := Lib.hid (show Keeps w4 w4.drew from (Keeps.refl w4).drew)
    clear hon CA HS HRW HP4 HLD
    go_upto_region 18 with fail
    refine wp_region_noPanic ?_
    refine wp_region_held_drew (S := fun w' => Mods (· = g) w4 w') (by kernel_rfl) ((Mods.refl (· = g) w4).drew) (fun _ => ?_)
    have hHeld : Mods (· = g) w4 (w4).drew := (Mods.refl (· = g) w4).drew
    generalize World.drew w4 = xs at *
    refine tq 0 88 ?_
    refine tq 1 89 ?_
    refine tq 2 90 ?_
    refine tq 3 91 ?_
    refine tq 5 93 ?_ (hy := fun w' hSw => by
     have hSw : Mods (· = g) w4 w' := hSw
     have h0 := hSw.cell a4 HPG.out
     clear hSw
     go_simp
     try with_reducible rfl)
    refine rd1 4 (fun K hK => ?_)
    have hx0 : World.cell? xs ⟨g, 0, none⟩ = some (.pointer (some ⟨gd, 0, none⟩)) := HC4.out
    go_simp
    clear hx0
    have hb := hHeld
    refine bkm hK hb ?_
    clear hK K hHeld
    have hHeld : Mods (· = g) w4 xs := hb
    clear hb
    refine rd1 6 (fun K hK => ?_)
    go_simp
    refine CL.out.mono ?_
    rintro e w5 ⟨g', n', rfl, hg', hn', ⟨b1', b2', nv5, av5, hst⟩, hk5⟩
    have hb := hHeld.then hk5
    have HN5 := Lib.hid hn'
    have HS5 := Lib.hid hst
    have HK5 := Lib.hid hk5
    obtain ⟨cg, hcg, hbg⟩ := HG4.out
    have HG5 := Lib.hid (hbg.keeps hk5)
    clear hg' hn' hst hk5 hbg
    go_wp2_with fail
    refine bkm hK hb ?_
    clear hK K hHeld
    have hHeld : Mods (· = g) w4 w5 := hb
    clear hb
    refine tq 7 95 ?_
    refine rd1 8 (fun K hK => ?_)
    refine step_ld rfl stM5 HS5.out.blk _ rfl rfl ?_
    have hb := hHeld
    refine bkm hK hb ?_
    clear hK K hHeld
    have hHeld : Mods (· = g) w4 w5 := hb
    clear hb
    refine tq 9 97 ?_
    refine rd1 10 (fun K hK => ?_)
    refine step_st (ds := #[.pointer (some ⟨gd, 0, none⟩), .int .i64 (keptB s l).next, .int .i64 (keptB s l).broken, .map (some b1'), .map (some b2')]) rfl stM5 HG5.out hcg (by simp [Value.oneCell']) _ _ rfl rfl rfl rfl ?_
    intro w6 hB6 hM6
    have hb := hHeld.trans hM6 (fun x h _ => h)
    have HB6 := Lib.hid hB6
    have HM6 := Lib.hid hM6
    clear hB6 hM6
    refine bkm hK hb ?_
    clear hK K hHeld
    have hHeld : Mods (· = g) w4 w6 := hb
    clear hb
    refine wpAnyH_done (by kernel_rfl) ?_ _
    refine NoPanic.normal ?_
    go_wp2_with fail
    refine bodyPost_ret (v := .tuple #[.int .i64 (o : Int), .int .i64 0]) (by simp [results, Tryz.results31, go_sem]) rfl ?_
    have hk45 := HKW.out.trans HK5.out
    have hs5 := HKW.out.size
    have hst5 : StIn w5 (Since w4 w5) g' b1' b2' gd n' (keptB s l) nv5 av5 := HS5.out.wide (fun y hy => ⟨by have := hy.1; omega, hy.2⟩) (Nat.le_refl _)
    refine .inr ⟨by rw [← HOU.out]; exact ho, by rw [HOU.out], n', ?_, ?_⟩
    ·rw [HF.out]
     exact Nat.le_trans HN5.out (fndL_len F)
    ·rw [HF.out]
     rw [HRR.out]
     refine ⟨HX4.out.reload hk45 hst5 HM6.out HB6.out, ?_⟩
     obtain ⟨_, _, _, _, hin⟩ := HX.out.st
     have hg := HX.out.lo g hin.og.1
     refine (((Mods.of_keeps HKWD.out).trans HM4.out (fun y hy _ => ⟨(HX.out.ls y hy).1, (HX.out.ls y hy).2.2.1⟩)).then hk45).trans HM6.out (fun y hy _ => ?_)
     rw [hy]
     exact ⟨hg.1, hg.2.2⟩
end
end Bds
end Go.Proofs.YtklbemkafdccgaaGreat

/- bodies, plain: the disk of a store, as long as no call fails. -/
namespace Go.Proofs.YtklbemkafdccgaaGreat
open Go.RowKit
namespace Bds
open Vd Sf
def no1 : Int × Int := (-1, 0)
def dkF (a : Str) : Shp := ⟨[⟨a, a, [], false⟩], [(nmB, 0)], [(nmB, 0)], []⟩
def dkG (a b : Str) : Shp := ⟨[⟨a ++ b, a, [⟨a.length, b⟩], false⟩], [(nmB, 0)], [(nmB, 0)], []⟩
/-- the disk: one file, synced, no traps -/
def Dk (room : Int) (a : Str) (n : Int) : Dsk := Wd room (dkF a) false n no1 no1
theorem twice_ok {f : Dsk → Dsk × Int} {d d' : Dsk} (h : f d = (d', 0)) : Sf.twice f d = (d', 0) := by
 unfold Sf.twice
 rw [h, if_pos (.inl rfl)]
theorem ch_no (room : Int) (sh : Shp) (n : Int) : changeD (Wd room sh false n no1 no1) = (Wd room sh false (n + 1) no1 no1, 0) := by
 rw [change_go (d := Wd room sh false n no1 no1) rfl spring_neg spring_neg]
 rfl
theorem sappend_dk {room : Int} {a b : Str} {n : Int} (h : ((a.length + b.length : Nat) : Int) ≤ room) : sAppend nmB b (Dk room a n) = (Dk room (a ++ b) (n + 1 + 1), 0) := by
 have h1 : appendD (Wd room (dkF a) false n no1 no1) nmB b = (Wd room (dkG a b) false (n + 1) no1 no1, 0) := by
  unfold appendD
  rw [touch_of (ch_no room (dkF a) n) (i := 0) (by kernel_rfl), if_neg (by show ¬ (0 : Int) ≠ 0; simp)]
  show writeD (Wd room (dkF a) false (n + 1) no1 no1) 0 ⟨a.length, b⟩ = _
  unfold writeD
  rw [if_neg (by
   show ¬ room - ((bytesN [⟨a, a, [], false⟩] [(nmB, 0)] : Nat) : Int) < ((overL a a.length b).length : Int) - (a.length : Int)
   rw [Sf.overL_end]
   simp [bytesN]
   omega)]
  show (putD (Wd room (dkF a) false (n + 1) no1 no1) 0 (wroteN ⟨a, a, [], false⟩ ⟨a.length, b⟩), (0 : Int)) = _
  unfold wroteN
  rw [show overL (Nod.mk a a [] false).seen (Pat.mk a.length b).place (Pat.mk a.length b).b = a ++ b from Sf.overL_end a b]
  kernel_rfl
 have h2 : syncD (Wd room (dkG a b) false (n + 1) no1 no1) nmB = (Wd room (dkF (a ++ b)) false (n + 1 + 1) no1 no1, 0) := by
  unfold syncD
  rw [touch_of (ch_no room (dkG a b) (n + 1)) (i := 0) (by kernel_rfl)]
  kernel_rfl
 unfold sAppend Dk
 rw [h1, thenD_go]
 exact twice_ok h2
def nmBN : Str := [98, 111, 100, 105, 101, 115, 46, 110]
def dkB (a : Str) : Shp := ⟨[⟨a, a, [], false⟩, newN], [(nmB, 0), (nmBN, 1)], [(nmB, 0)], [⟨1, nmBN, true⟩]⟩
def dkC (a b : Str) : Shp := ⟨[⟨a, a, [], false⟩, ⟨b, [], [⟨0, b⟩], true⟩], [(nmB, 0), (nmBN, 1)], [(nmB, 0)], [⟨1, nmBN, true⟩]⟩
def dkD (a b : Str) : Shp := ⟨[⟨a, a, [], false⟩, ⟨b, b, [], true⟩], [(nmB, 0), (nmBN, 1)], [(nmB, 0)], [⟨1, nmBN, true⟩]⟩
def dkE (a b : Str) : Shp := ⟨[⟨a, a, [], false⟩, ⟨b, b, [], true⟩], [(nmB, 1)], [(nmB, 0)], [⟨1, nmBN, true⟩, ⟨1, nmB, false⟩]⟩
def dkH (a b : Str) : Shp := ⟨[⟨a, a, [], false⟩, ⟨b, b, [], false⟩], [(nmB, 1)], [(nmB, 1)], []⟩
theorem sswap_dk {room : Int} {a b : Str} {n : Int} (h : ((a.length + b.length : Nat) : Int) ≤ room) : (sSwap nmB b (Dk room a n)).2 = 0 := by
 have h0 : createD (Wd room (dkF a) false n no1 no1) nmBN = (Wd room (dkB a) false (n + 1) no1 no1, 0) := by
  unfold createD
  rw [ch_no]
  kernel_rfl
 have h1 : appendD (Wd room (dkB a) false (n + 1) no1 no1) nmBN b = (Wd room (dkC a b) false (n + 1 + 1) no1 no1, 0) := by
  unfold appendD
  rw [touch_of (ch_no room (dkB a) (n + 1)) (i := 1) (by kernel_rfl), if_neg (by show ¬ (0 : Int) ≠ 0; simp)]
  show writeD (Wd room (dkB a) false (n + 1 + 1) no1 no1) 1 ⟨0, b⟩ = _
  unfold writeD
  rw [if_neg (by
   show ¬ room - ((bytesN [⟨a, a, [], false⟩, newN] [(nmB, 0), (nmBN, 1)] : Nat) : Int) < ((overL [] 0 b).length : Int) - (([] : Str).length : Int)
   rw [overL_nil]
   simp [bytesN, newN]
   omega)]
  show (putD (Wd room (dkB a) false (n + 1 + 1) no1 no1) 1 (wroteN newN ⟨0, b⟩), (0 : Int)) = _
  unfold wroteN
  rw [show overL newN.seen (Pat.mk 0 b).place (Pat.mk 0 b).b = b from overL_nil b]
  kernel_rfl
 have h2 : syncD (Wd room (dkC a b) false (n + 1 + 1) no1 no1) nmBN = (Wd room (dkD a b) false (n + 1 + 1 + 1) no1 no1, 0) := by
  unfold syncD
  rw [touch_of (ch_no room (dkC a b) (n + 1 + 1)) (i := 1) (by kernel_rfl)]
  kernel_rfl
 have h3 : renameD (Wd room (dkD a b) false (n + 1 + 1 + 1) no1 no1) nmBN nmB = (Wd room (dkE a b) false (n + 1 + 1 + 1 + 1) no1 no1, 0) := by
  unfold renameD
  rw [ch_no]
  kernel_rfl
 have h4 : syncDirD (Wd room (dkE a b) false (n + 1 + 1 + 1 + 1) no1 no1) = (Wd room (dkH a b) false (n + 1 + 1 + 1 + 1 + 1) no1 no1, 0) := by
  unfold syncDirD
  rw [ch_no]
  kernel_rfl
 unfold sSwap Dk
 rw [if_neg (by decide), show nmB ++ dotN = nmBN from rfl, if_neg (by rw [show hasD (Wd room (dkF a) false n no1 no1) nmBN = false from by kernel_rfl]; simp)]
 unfold sSwap1
 rw [h0, thenD_go]
 unfold sAppend
 rw [h1, thenD_go, show sSync nmBN _ = _ from twice_ok h2, thenD_go, h3, thenD_go, show sDir _ = _ from twice_ok h4]
 unfold tidyS
 rw [if_pos (.inl rfl)]
/-- a new disk, and the file that Open makes there -/
def dNew (room : Int) : Dsk := Wd room ⟨[], [], [], []⟩ false 0 no1 no1
theorem dNew_is (room : Int) (h : 1 ≤ room) (h' : room ≤ 4194304) : newD [] room = some (dNew room) := by
 unfold newD
 rw [if_neg (by simp; omega)]
 rfl
theorem make_dk {room : Int} (h : 0 ≤ room) : sMake nmB [] (dNew room) = (Dk room [] (0 + 1 + 1 + 1 + 1), 0) := by
 have h0 : createD (dNew room) nmB = (Wd room ⟨[newN], [(nmB, 0)], [], [⟨0, nmB, true⟩]⟩ false (0 + 1) no1 no1, 0) := by
  unfold createD dNew
  rw [ch_no]
  kernel_rfl
 have h1 : appendD (Wd room ⟨[newN], [(nmB, 0)], [], [⟨0, nmB, true⟩]⟩ false (0 + 1) no1 no1) nmB [] = (Wd room ⟨[⟨[], [], [⟨0, []⟩], true⟩], [(nmB, 0)], [], [⟨0, nmB, true⟩]⟩ false (0 + 1 + 1) no1 no1, 0) := by
  unfold appendD
  rw [touch_of (ch_no room _ (0 + 1)) (i := 0) (by kernel_rfl), if_neg (by show ¬ (0 : Int) ≠ 0; simp)]
  show writeD (Wd room ⟨[newN], [(nmB, 0)], [], [⟨0, nmB, true⟩]⟩ false (0 + 1 + 1) no1 no1) 0 ⟨0, []⟩ = _
  unfold writeD
  rw [if_neg (by
   show ¬ room - ((bytesN [newN] [(nmB, 0)] : Nat) : Int) < ((overL [] 0 []).length : Int) - (([] : Str).length : Int)
   rw [overL_nil]
   simp [bytesN, newN]
   omega)]
  show (putD (Wd room ⟨[newN], [(nmB, 0)], [], [⟨0, nmB, true⟩]⟩ false (0 + 1 + 1) no1 no1) 0 (wroteN newN ⟨0, []⟩), (0 : Int)) = _
  unfold wroteN
  rw [show overL newN.seen (Pat.mk 0 []).place (Pat.mk 0 []).b = [] from overL_nil []]
  kernel_rfl
 have h2 : syncD (Wd room ⟨[⟨[], [], [⟨0, []⟩], true⟩], [(nmB, 0)], [], [⟨0, nmB, true⟩]⟩ false (0 + 1 + 1) no1 no1) nmB = (Wd room ⟨[⟨[], [], [], true⟩], [(nmB, 0)], [], [⟨0, nmB, true⟩]⟩ false (0 + 1 + 1 + 1) no1 no1, 0) := by
  unfold syncD
  rw [touch_of (ch_no room _ (0 + 1 + 1)) (i := 0) (by kernel_rfl)]
  kernel_rfl
 have h3 : syncDirD (Wd room ⟨[⟨[], [], [], true⟩], [(nmB, 0)], [], [⟨0, nmB, true⟩]⟩ false (0 + 1 + 1 + 1) no1 no1) = (Dk room [] (0 + 1 + 1 + 1 + 1), 0) := by
  unfold syncDirD
  rw [ch_no]
  kernel_rfl
 unfold sMake
 rw [if_neg (by rw [show hasD (dNew room) nmB = false from by kernel_rfl]; simp), h0, if_neg (by show ¬ (0 : Int) ≠ 0; simp)]
 unfold sAppend
 dsimp only
 rw [h1, thenD_go, show sSync nmB _ = _ from twice_ok h2, thenD_go, show sDir _ = _ from twice_ok h3]
 unfold tidyD
 rw [if_pos (.inl rfl)]
theorem tidy_new (room : Int) : sTidy nmB (dNew room) = (dNew room, 0) := by kernel_rfl
theorem has_new (room : Int) : hasD (dNew room) nmB = false := by kernel_rfl
theorem text_dk (room : Int) (a : Str) (n : Int) : textD (Dk room a n) nmB = (a, 0) := by kernel_rfl
end Bds
end Go.Proofs.YtklbemkafdccgaaGreat
