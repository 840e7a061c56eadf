/- Several texts in one: SfTwin, RsSmall, RsMake, RsSwap, RsTidy, RfKnown, RfBootPl, TxAwake, TxlogBytes. -/
import Derived.Test.YtchjncnolmiejaaGreatK36
import Derived.Test.YtchjncnolmiejaaGreatK41
import Derived.Test.YtchjncnolmiejaaGreatK40
/- safe's calls on both disks: one answer, and alike behind it. Plain. -/
namespace Go.Proofs.YtchjncnolmiejaaGreat
open Go.RowKit
namespace Sf
open Vd
def twiceR (f : RDsk → RDsk × Int) (r : RDsk) : RDsk × Int := if (f r).2 = 0 ∨ (f r).2 = 11 then f r else f (f r).1
def thenR (q : RDsk × Int) (f : RDsk → RDsk × Int) : RDsk × Int := if q.2 = 0 then f q.1 else q
def hasR (r : RDsk) (x : Str) : Bool := !r.down && (Vd.look r.now x).isSome
def rSync (x : Str) : RDsk → RDsk × Int := twiceR (fun r => syncR r x)
def rDir : RDsk → RDsk × Int := twiceR syncDirR
def rUnlink (x : Str) : RDsk → RDsk × Int := twiceR (fun r => unlinkR r x)
def rAppend (x b : Str) (r : RDsk) : RDsk × Int := thenR (appendR r x b) (rSync x)
def tidyR0 (x : Str) (q : RDsk × Int) : RDsk × Int := if q.2 = 0 ∨ q.2 = 11 then q else ((rUnlink x q.1).1, q.2)
def rMake (x b : Str) (r : RDsk) : RDsk × Int :=
 if hasR r x then (r, 8) else if (createR r x).2 ≠ 0 then createR r x
 else tidyR0 x (thenR (rAppend x b (createR r x).1) rDir)
def rDrop (x : Str) (r : RDsk) : RDsk × Int := if r.down = false ∧ hasR r x = false then (r, 0) else thenR (unlinkR r x) rDir
def tidyR (n : Str) (q : RDsk × Int) : RDsk × Int := if q.2 = 0 ∨ q.2 = 11 ∨ hasR q.1 n = false then q else ((rUnlink n q.1).1, q.2)
def rSwap1 (x n b : Str) (r : RDsk) : RDsk × Int := tidyR n (thenR (thenR (thenR (createR r n) (rAppend n b)) (fun r => renameR r n x)) rDir)
def rSwap (x b : Str) (r : RDsk) : RDsk × Int :=
 if 30 < x.length then (r, 3) else if hasR r (x ++ dotN) then (if (unlinkR r (x ++ dotN)).2 ≠ 0 then unlinkR r (x ++ dotN) else rSwap1 x (x ++ dotN) b (unlinkR r (x ++ dotN)).1) else rSwap1 x (x ++ dotN) b r
/-- names that begin and end so -/
def tidyN (p x : Str) : Bool := decide (p.length ≤ x.length ∧ x.take p.length = p) && decide (2 ≤ x.length ∧ x.drop (x.length - 2) = dotN)
def unlinksD : List Str → Dsk → Dsk × Int
 | [], d => (d, 0)
 | x :: l, d => if (unlinkD d x).2 ≠ 0 then unlinkD d x else unlinksD l (unlinkD d x).1
def unlinksR : List Str → RDsk → RDsk × Int
 | [], r => (r, 0)
 | x :: l, r => if (unlinkR r x).2 ≠ 0 then unlinkR r x else unlinksR l (unlinkR r x).1
def tidyL (p : Str) (l : Nms) : List Str := (l.map (·.1)).filter (tidyN p)
def sTidy (p : Str) (d : Dsk) : Dsk × Int := if d.off then (d, 0) else unlinksD (tidyL p d.seen) d
def rTidy (p : Str) (r : RDsk) : RDsk × Int := if r.down then (r, 0) else unlinksR (tidyL p r.now) r

theorem twice_alike {j : Nat} {f : Dsk → Dsk × Int} {g : RDsk → RDsk × Int} (h : DAlike j f g) : DAlike (j + j) (twice f) (twiceR g) := fun d r k hk hd => by
 obtain ⟨h1, h2⟩ := h d r k (by omega) hd
 unfold twice twiceR
 rw [← h1]
 by_cases hc : (f d).2 = 0 ∨ (f d).2 = 11
 ·rw [if_pos hc, if_pos hc]
  exact ⟨h1, h2.more (by omega)⟩
 ·rw [if_neg hc, if_neg hc]
  obtain ⟨h3, h4⟩ := h _ _ (k + j) (by omega) h2
  exact ⟨h3, h4.more (by omega)⟩
theorem then_alike {j1 j2 : Nat} {f1 f2 : Dsk → Dsk × Int} {g1 g2 : RDsk → RDsk × Int} (h1 : DAlike j1 f1 g1) (h2 : DAlike j2 f2 g2) : DAlike (j1 + j2) (fun d => thenD (f1 d) f2) (fun r => thenR (g1 r) g2) := fun d r k hk hd => by
 obtain ⟨e1, r1⟩ := h1 d r k (by omega) hd
 unfold thenD thenR
 dsimp only
 rw [← e1]
 by_cases hc : (f1 d).2 = 0
 ·rw [if_pos hc, if_pos hc]
  obtain ⟨e2, r2⟩ := h2 _ _ (k + j1) (by omega) r1
  exact ⟨e2, r2.more (by omega)⟩
 ·rw [if_neg hc, if_neg hc]
  exact ⟨e1, r1.more (by omega)⟩
theorem has_alike {d : Dsk} {r : RDsk} {k : Nat} (h : DR d r k) (x : Str) : hasD d x = hasR r x := by
 unfold hasD hasR textD
 rw [← h.off, ← h.seen]
 cases d.off with
 | true => rfl
 | false =>
  cases Vd.look d.seen x <;> rfl
theorem sync_al (x : Str) : DAlike 2 (sSync x) (rSync x) := twice_alike (sync_alike x)
theorem dir_al : DAlike 2 sDir rDir := twice_alike syncDir_alike
theorem unlink_al (x : Str) : DAlike 2 (sUnlink x) (rUnlink x) := twice_alike (unlink_alike x)
theorem append_al (x b : Str) : DAlike 3 (sAppend x b) (rAppend x b) := then_alike (append_alike x b) (sync_al x)
/-- a step of the state alone -/
theorem tidyD_al {j : Nat} {f : Dsk → Dsk × Int} {g : RDsk → RDsk × Int} (x : Str) (h : DAlike j f g) : DAlike (j + 2) (fun d => tidyD x (f d)) (fun r => tidyR0 x (g r)) := fun d r k hk hd => by
 obtain ⟨e1, r1⟩ := h d r k (by omega) hd
 unfold tidyD tidyR0
 dsimp only
 rw [← e1]
 by_cases hc : (f d).2 = 0 ∨ (f d).2 = 11
 ·rw [if_pos hc, if_pos hc]
  exact ⟨e1, r1.more (by omega)⟩
 ·rw [if_neg hc, if_neg hc]
  obtain ⟨-, r2⟩ := unlink_al x _ _ (k + j) (by omega) r1
  exact ⟨rfl, r2.more (by omega)⟩
theorem tidyS_al {j : Nat} {f : Dsk → Dsk × Int} {g : RDsk → RDsk × Int} (x : Str) (h : DAlike j f g) : DAlike (j + 2) (fun d => tidyS x (f d)) (fun r => tidyR x (g r)) := fun d r k hk hd => by
 obtain ⟨e1, r1⟩ := h d r k (by omega) hd
 unfold tidyS tidyR
 dsimp only
 rw [← e1, ← has_alike r1]
 by_cases hc : (f d).2 = 0 ∨ (f d).2 = 11 ∨ hasD (f d).1 x = false
 ·rw [if_pos hc, if_pos hc]
  exact ⟨e1, r1.more (by omega)⟩
 ·rw [if_neg hc, if_neg hc]
  obtain ⟨-, r2⟩ := unlink_al x _ _ (k + j) (by omega) r1
  exact ⟨rfl, r2.more (by omega)⟩
theorem make_al (x b : Str) : DAlike 8 (sMake x b) (rMake x b) := fun d r k hk hd => by
 unfold sMake rMake
 rw [← has_alike hd]
 cases hasD d x with
 | true => exact ⟨rfl, hd.more (by omega)⟩
 | false =>
  simp only [Bool.false_eq_true, if_false]
  obtain ⟨e1, r1⟩ := create_alike x d r k (by omega) hd
  dsimp only at e1 r1
  rw [← e1]
  by_cases hc : (createD d x).2 ≠ 0
  ·rw [if_pos hc, if_pos hc]
   exact ⟨e1, r1.more (by omega)⟩
  ·rw [if_neg hc, if_neg hc]
   obtain ⟨e2, r2⟩ := tidyD_al x (then_alike (append_al x b) dir_al) _ _ (k + 1) (by omega) r1
   exact ⟨e2, r2.more (by omega)⟩
theorem swap1_al (x n b : Str) : DAlike 9 (sSwap1 x n b) (rSwap1 x n b) := tidyS_al n (then_alike (then_alike (then_alike (create_alike n) (append_al n b)) (rename_alike n x)) dir_al)
theorem swap_al (x b : Str) : DAlike 10 (sSwap x b) (rSwap x b) := fun d r k hk hd => by
 unfold sSwap rSwap
 by_cases h30 : 30 < x.length
 ·rw [if_pos h30, if_pos h30]
  exact ⟨rfl, hd.more (by omega)⟩
 rw [if_neg h30, if_neg h30, ← has_alike hd]
 cases hasD d (x ++ dotN) with
 | false =>
  simp only [Bool.false_eq_true, if_false]
  obtain ⟨e2, r2⟩ := swap1_al x (x ++ dotN) b _ _ k (by omega) hd
  exact ⟨e2, r2.more (by omega)⟩
 | true =>
  simp only [if_true]
  obtain ⟨e1, r1⟩ := unlink_alike (x ++ dotN) d r k (by omega) hd
  dsimp only at e1 r1
  rw [← e1]
  by_cases hc : (unlinkD d (x ++ dotN)).2 ≠ 0
  ·rw [if_pos hc, if_pos hc]
   exact ⟨e1, r1.more (by omega)⟩
  ·rw [if_neg hc, if_neg hc]
   obtain ⟨e2, r2⟩ := swap1_al x (x ++ dotN) b _ _ (k + 1) (by omega) r1
   exact ⟨e2, r2.more (by omega)⟩
end Sf
end Go.Proofs.YtchjncnolmiejaaGreat

/- ref16's bad, Sync, SyncDir, away, Has, Append, both disks side by side. (MADE BY gen_rs.py.) -/
namespace Go.Proofs.YtchjncnolmiejaaGreat
open Go.RowKit
namespace Rs
open Vd Rf Sf
open Go.Maps
def badB (c : Int) : Bool := c != 0 && c != 11
theorem bad_no {c : Int} (h : c = 0 ∨ c = 11) : badB c = false := by
 rcases h with rfl | rfl <;> rfl
theorem bad_yes {c : Int} (h : ¬ (c = 0 ∨ c = 11)) : badB c = true := by
 unfold badB
 have h1 : c ≠ 0 := fun e => h (.inl e)
 have h2 : c ≠ 11 := fun e => h (.inr e)
 simp [h1, h2]
theorem bad_r (c : Int) (w : World) : Calls Tryz.prog 53 #[.int .i64 c] w fun e w' => e = .returned (.bool (badB c)) ∧ w = w' := by
 by_cases h0 : c = 0
 ·subst h0
  go_enter Tryz.func53, Tryz.ntmps53
  go_wp2_with fail
  go_ret
  exact ⟨rfl, rfl⟩
 ·have e1 : (c != 0) = true := by simp [h0]
  have HX := Lib.hid (show badB c = (c != 11) from by unfold badB; rw [e1]; rfl)
  clear h0
  go_enter Tryz.func53, Tryz.ntmps53
  go_wp2_with fail
  go_ret
  exact ⟨by rw [HX.out]; rfl, rfl⟩
section
variable {L : List Nat} {W w : World} {g m : Nat} {d : Dsk} {r : RDsk} {k : Nat}
set_option maxRecDepth 100000 in
set_option maxHeartbeats 2000000 in
theorem rssync_two (h : TwoAt L W w g d m r k) (hk : k ≤ 89990) (x : Str) : Calls Tryz.prog 95 #[.pointer (some ⟨m, 0, none⟩), .string (bstr x)] w (TwoDid L W w g d m (rSync x r).1 (k + 6) (.int .i64 (rSync x r).2)) := by
 have H := Lib.hid h
 have HC := Lib.hid (rsync_two h (by omega) x)
 have HX0 : Hid ((rSync x r) = if (syncR r x).2 = 0 ∨ (syncR r x).2 = 11 then syncR r x else syncR ((syncR r x).1) x) := Lib.hid rfl
 clear h
 generalize syncR r x = q1 at *
 obtain ⟨r1, c1⟩ := q1
 simp only at HX0 HC
 go_enter Tryz.func95, Tryz.ntmps95
 go_wp2_with fail
 refine HC.out.mono ?_
 rintro e w1 ⟨rfl, h1, m1⟩
 have H1 := Lib.hid h1
 have HM := Lib.hid m1
 clear h1 m1 HC
 have HB := Lib.hid (bad_r c1 w1)
 by_cases hc : c1 = 0 ∨ c1 = 11
 ·have HX := Lib.hid (HX0.out.trans (if_pos hc))
  rw [bad_no hc] at HB
  clear hc HX0
  go_wp2_with fail
  refine HB.out.mono ?_
  rintro e w2 ⟨rfl, rfl⟩
  go_wp2_with fail
  go_ret
  rw [HX.out]
  exact ⟨rfl, H1.out.more (by omega), HM.out⟩
 ·have HX := Lib.hid (HX0.out.trans (if_neg hc))
  rw [bad_yes hc] at HB
  have HC2 := Lib.hid (rsync_two H1.out (by omega) x)
  clear hc HX0
  go_wp2_with fail
  refine HB.out.mono ?_
  rintro e w2 ⟨rfl, rfl⟩
  go_wp2_with fail
  refine HC2.out.mono ?_
  rintro e w3 ⟨rfl, h3, m3⟩
  have H3 := Lib.hid h3
  have HM3 := Lib.hid (HM.out.trans m3 (fun y hy _ => hy))
  clear h3 m3 HC2
  go_wp2_with fail
  go_ret
  rw [HX.out]
  exact ⟨rfl, H3.out.more (by omega), HM3.out⟩
set_option maxRecDepth 100000 in
set_option maxHeartbeats 2000000 in
theorem rsdir_two (h : TwoAt L W w g d m r k) (hk : k ≤ 89990) : Calls Tryz.prog 52 #[.pointer (some ⟨m, 0, none⟩)] w (TwoDid L W w g d m (rDir r).1 (k + 6) (.int .i64 (rDir r).2)) := by
 have H := Lib.hid h
 have HC := Lib.hid (rsyncDir_two h (by omega))
 have HX0 : Hid ((rDir r) = if (syncDirR r).2 = 0 ∨ (syncDirR r).2 = 11 then syncDirR r else syncDirR ((syncDirR r).1)) := Lib.hid rfl
 clear h
 generalize syncDirR r = q1 at *
 obtain ⟨r1, c1⟩ := q1
 simp only at HX0 HC
 go_enter Tryz.func52, Tryz.ntmps52
 go_wp2_with fail
 refine HC.out.mono ?_
 rintro e w1 ⟨rfl, h1, m1⟩
 have H1 := Lib.hid h1
 have HM := Lib.hid m1
 clear h1 m1 HC
 have HB := Lib.hid (bad_r c1 w1)
 by_cases hc : c1 = 0 ∨ c1 = 11
 ·have HX := Lib.hid (HX0.out.trans (if_pos hc))
  rw [bad_no hc] at HB
  clear hc HX0
  go_wp2_with fail
  refine HB.out.mono ?_
  rintro e w2 ⟨rfl, rfl⟩
  go_wp2_with fail
  go_ret
  rw [HX.out]
  exact ⟨rfl, H1.out.more (by omega), HM.out⟩
 ·have HX := Lib.hid (HX0.out.trans (if_neg hc))
  rw [bad_yes hc] at HB
  have HC2 := Lib.hid (rsyncDir_two H1.out (by omega))
  clear hc HX0
  go_wp2_with fail
  refine HB.out.mono ?_
  rintro e w2 ⟨rfl, rfl⟩
  go_wp2_with fail
  refine HC2.out.mono ?_
  rintro e w3 ⟨rfl, h3, m3⟩
  have H3 := Lib.hid h3
  have HM3 := Lib.hid (HM.out.trans m3 (fun y hy _ => hy))
  clear h3 m3 HC2
  go_wp2_with fail
  go_ret
  rw [HX.out]
  exact ⟨rfl, H3.out.more (by omega), HM3.out⟩
set_option maxRecDepth 100000 in
set_option maxHeartbeats 2000000 in
theorem rsaway_two (h : TwoAt L W w g d m r k) (hk : k ≤ 89990) (x : Str) : Calls Tryz.prog 54 #[.pointer (some ⟨m, 0, none⟩), .string (bstr x)] w (TwoDid L W w g d m (rUnlink x r).1 (k + 6) (.tuple #[])) := by
 have H := Lib.hid h
 have HC := Lib.hid (runlink_two h (by omega) x)
 have HX0 : Hid ((rUnlink x r) = if (unlinkR r x).2 = 0 ∨ (unlinkR r x).2 = 11 then unlinkR r x else unlinkR ((unlinkR r x).1) x) := Lib.hid rfl
 clear h
 generalize unlinkR r x = q1 at *
 obtain ⟨r1, c1⟩ := q1
 simp only at HX0 HC
 go_enter Tryz.func54, Tryz.ntmps54
 go_wp2_with fail
 refine HC.out.mono ?_
 rintro e w1 ⟨rfl, h1, m1⟩
 have H1 := Lib.hid h1
 have HM := Lib.hid m1
 clear h1 m1 HC
 have HB := Lib.hid (bad_r c1 w1)
 by_cases hc : c1 = 0 ∨ c1 = 11
 ·have HX := Lib.hid (HX0.out.trans (if_pos hc))
  rw [bad_no hc] at HB
  clear hc HX0
  go_wp2_with fail
  refine HB.out.mono ?_
  rintro e w2 ⟨rfl, rfl⟩
  go_wp2_with fail
  go_end0
  rw [HX.out]
  exact ⟨rfl, H1.out.more (by omega), HM.out⟩
 ·have HX := Lib.hid (HX0.out.trans (if_neg hc))
  rw [bad_yes hc] at HB
  have HC2 := Lib.hid (runlink_two H1.out (by omega) x)
  clear hc HX0
  go_wp2_with fail
  refine HB.out.mono ?_
  rintro e w2 ⟨rfl, rfl⟩
  go_wp2_with fail
  refine HC2.out.mono ?_
  rintro e w3 ⟨rfl, h3, m3⟩
  have H3 := Lib.hid h3
  have HM3 := Lib.hid (HM.out.trans m3 (fun y hy _ => hy))
  clear h3 m3 HC2
  go_wp2_with fail
  go_end0
  rw [HX.out]
  exact ⟨rfl, H3.out.more (by omega), HM3.out⟩

theorem rshas_two (h : TwoAt L W w g d m r k) (x : Str) : Calls Tryz.prog 48 #[.pointer (some ⟨m, 0, none⟩), .string (bstr x)] w fun e w' => e = .returned (.bool (hasR r x)) ∧ w = w' := by
 obtain ⟨S, M, h⟩ := h
 have HF := Lib.hid (rfind_r h.ref x)
 obtain ⟨fv, nv, sv, wv, fw, hh⟩ := h.ref
 obtain ⟨-, -, -, -, -, c5, -⟩ := hh.cells
 have HX : Hid (hasR r x = (!r.down && (Vd.look r.now x).isSome)) := Lib.hid rfl
 have HY : Hid (findR r.now x = match Vd.look r.now x with | none => -1 | some i => (i : Int)) := Lib.hid rfl
 clear h hh
 cases hd : r.down with
 | true =>
  rw [hd] at c5 HX
  go_enter Tryz.func48, Tryz.ntmps48
  go_wp2_with fail
  go_ret
  exact ⟨by rw [HX.out]; rfl, rfl⟩
 | false =>
  rw [hd] at c5 HX
  clear hd
  cases hl : Vd.look r.now x with
  | none =>
   rw [hl] at HX HY
   rw [HY.out] at HF
   clear hl HY
   go_enter Tryz.func48, Tryz.ntmps48
   go_wp2_with fail
   refine HF.out.mono ?_
   rintro e w2 ⟨rfl, rfl⟩
   go_wp2_with fail
   go_ret
   exact ⟨by rw [HX.out]; rfl, rfl⟩
  | some i =>
   rw [hl] at HX HY
   rw [HY.out] at HF
   have hi0 : (0 : Int) ≤ (i : Int) := by omega
   clear hl HY
   go_enter Tryz.func48, Tryz.ntmps48
   go_wp2_with fail
   refine HF.out.mono ?_
   rintro e w2 ⟨rfl, rfl⟩
   go_wp2_with fail
   go_ret
   exact ⟨by rw [HX.out]; rfl, rfl⟩
/-- a row that no change of the disks touches -/
def Stay2 (L : List Nat) (W w : World) (v : Value) (l : List Value) : Prop := ∀ T w', (∀ y, T y → W.heap.size ≤ y ∧ y ∉ L) → Mods T w w' → Row w' v l
theorem Stay2.row {v : Value} {l : List Value} (h : Stay2 L W w v l) : Row w v l := h (fun _ => False) w (fun _ hh => hh.elim) (Mods.refl _ _)
theorem Stay2.mods {w' : World} {v : Value} {l : List Value} (h : Stay2 L W w v l) (hm : Mods (fun y => W.heap.size ≤ y ∧ y ∉ L) w w') : Stay2 L W w' v l := fun T w2 hT hm2 => h _ w2 (fun _ hy => hy) (hm.trans hm2 (fun y hy _ => hT y hy))
set_option maxRecDepth 100000 in
set_option maxHeartbeats 2000000 in
theorem rsappend_two (h : TwoAt L W w g d m r k) (hk : k ≤ 89980) (x : Str) {b : Str} {p0 : Option Addr} {c0 : Nat} (hb : Stay2 L W w (.slice p0 b.length c0) (b.map u8v)) (hbl : b.length ≤ 1000000000) : Calls Tryz.prog 45 #[.pointer (some ⟨m, 0, none⟩), .string (bstr x), .slice p0 b.length c0] w (TwoDid L W w g d m (rAppend x b r).1 (k + 9) (.int .i64 (rAppend x b r).2)) := by
 have H := Lib.hid h
 have HC := Lib.hid (rappend_two h (by omega) x hb.row hbl)
 have HX0 : Hid (rAppend x b r = if (appendR r x b).2 = 0 then rSync x (appendR r x b).1 else appendR r x b) := Lib.hid rfl
 clear h hb
 generalize appendR r x b = q1 at *
 obtain ⟨r1, c1⟩ := q1
 simp only at HX0 HC
 go_enter Tryz.func45, Tryz.ntmps45
 go_wp2_with fail
 refine HC.out.mono ?_
 rintro e w1 ⟨rfl, h1, m1⟩
 have H1 := Lib.hid h1
 have HM := Lib.hid m1
 clear h1 m1 HC
 by_cases hc : c1 = 0
 ·subst hc
  have HX := Lib.hid (HX0.out.trans (if_pos rfl))
  have HC2 := Lib.hid (rssync_two H1.out (by omega) x)
  clear HX0
  go_wp2_with fail
  refine HC2.out.mono ?_
  rintro e w3 ⟨rfl, h3, m3⟩
  have H3 := Lib.hid h3
  have HM3 := Lib.hid (HM.out.trans m3 (fun y hy _ => hy))
  clear h3 m3 HC2
  go_wp2_with fail
  go_ret
  rw [HX.out]
  exact ⟨rfl, H3.out.more (by omega), HM3.out⟩
 ·have HX := Lib.hid (HX0.out.trans (if_neg hc))
  have hc' : (c1 != 0) = true := by simp [hc]
  clear hc HX0
  go_wp2_with fail
  go_ret
  rw [HX.out]
  exact ⟨rfl, H1.out.more (by omega), HM.out⟩
end
end Rs
end Go.Proofs.YtchjncnolmiejaaGreat

/- ref16's Make, Drop, both disks side by side. -/
namespace Go.Proofs.YtchjncnolmiejaaGreat
open Go.RowKit
namespace Rs
open Vd Rf Sf
open Go.Maps
section
variable {L : List Nat} {W w : World} {g m : Nat} {d : Dsk} {r : RDsk} {k : Nat}
set_option maxRecDepth 100000 in
set_option maxHeartbeats 4000000 in
theorem rsmake_two (h : TwoAt L W w g d m r k) (hk : k ≤ 89900) (x : Str) (hx : x.length ≤ 9000000000000000000) {b : Str} {p0 : Option Addr} {c0 : Nat} (hb : Stay2 L W w (.slice p0 b.length c0) (b.map u8v)) (hbl : b.length ≤ 1000000000) : Calls Tryz.prog 43 #[.pointer (some ⟨m, 0, none⟩), .string (bstr x), .slice p0 b.length c0] w (TwoDid L W w g d m (rMake x b r).1 (k + 30) (.int .i64 (rMake x b r).2)) := by
 have H := Lib.hid h
 have HS := Lib.hid hb
 have HHA := Lib.hid (rshas_two h x)
 have HX0 : Hid (rMake x b r = if hasR r x then (r, 8) else if (createR r x).2 ≠ 0 then createR r x else tidyR0 x (thenR (rAppend x b (createR r x).1) rDir)) := Lib.hid rfl
 have HC := Lib.hid (rcreate_two h (by omega) x hx)
 clear h hb
 generalize hasR r x = hh at *
 generalize createR r x = q1 at *
 obtain ⟨r1, c1⟩ := q1
 simp only at HX0 HC
 cases hh with
 | true =>
  have HX : Hid (rMake x b r = (r, 8)) := Lib.hid (HX0.out.trans (if_pos rfl))
  go_enter Tryz.func43, Tryz.ntmps43
  go_wp2_with fail
  refine HHA.out.mono ?_
  rintro e w2 ⟨rfl, rfl⟩
  go_wp2_with fail
  go_ret
  rw [HX.out]
  exact ⟨rfl, H.out.more (by omega), Mods.refl _ _⟩
 | false =>
  have HX1 := Lib.hid (HX0.out.trans (if_neg (by simp)))
  clear HX0
  go_enter Tryz.func43, Tryz.ntmps43
  go_wp2_with fail
  refine HHA.out.mono ?_
  rintro e w2 ⟨rfl, rfl⟩
  go_wp2_with fail
  refine HC.out.mono ?_
  rintro e w1 ⟨rfl, h1, m1⟩
  have H1 := Lib.hid h1
  have HM := Lib.hid m1
  have HS1 := Lib.hid (HS.out.mods m1)
  clear h1 m1 HC HHA
  by_cases hc : c1 = 0
  ·subst hc
   have HX2 : Hid (rMake x b r = tidyR0 x (thenR (rAppend x b r1) rDir)) := Lib.hid (HX1.out.trans (if_neg (by simp)))
   have HA := Lib.hid (rsappend_two H1.out (by omega) x HS1.out hbl)
   have HT0 : Hid (thenR (rAppend x b r1) rDir = if (rAppend x b r1).2 = 0 then rDir (rAppend x b r1).1 else rAppend x b r1) := Lib.hid rfl
   generalize rAppend x b r1 = q2 at *
   obtain ⟨r2, c2⟩ := q2
   simp only at HA HT0
   clear HX1
   go_wp2_with fail
   refine HA.out.mono ?_
   rintro e w2 ⟨rfl, h2, m2⟩
   have H2 := Lib.hid h2
   have HM2 := Lib.hid (HM.out.trans m2 (fun y hy _ => hy))
   clear h2 m2 HA
   go_upto_if 23 with fail
   go_cut [8] (fun ev wx => ∃ r3 c3, ev = .int .i64 c3 ∧ Hid (thenR (r2, c2) rDir = (r3, c3) ∧ TwoAt L W wx g d m r3 (k + 18) ∧ Mods (fun y => W.heap.size ≤ y ∧ y ∉ L) w wx))
   case first =>
    by_cases hc : c2 = 0
    ·subst hc
     have HT := Lib.hid (HT0.out.trans (if_pos rfl))
     have HD := Lib.hid (rsdir_two H2.out (by omega))
     generalize rDir r2 = q3 at *
     obtain ⟨r3, c3⟩ := q3
     go_wp2_with fail
     refine HD.out.mono ?_
     rintro e w3 ⟨rfl, h3, m3⟩
     have H3 := Lib.hid h3
     have HM3 := Lib.hid (HM2.out.trans m3 (fun y hy _ => hy))
     clear h3 m3 HD
     go_wp2_with fail
     go_meet
     exact ⟨r3, c3, rfl, Lib.hid ⟨HT.out, H3.out.more (by omega), HM3.out⟩⟩
    ·have HT := Lib.hid (HT0.out.trans (if_neg hc))
     have hc' : (c2 == 0) = false := by simp [hc]
     clear hc
     go_wp2_with fail
     go_meet
     exact ⟨r2, c2, rfl, Lib.hid ⟨HT.out, H2.out.more (by omega), HM2.out⟩⟩
   case rest =>
   obtain ⟨r3, c3, rfl, HQ⟩ := hcut
   obtain ⟨w3, rfl⟩ : ∃ z : World, z = wc := ⟨_, rfl⟩
   have HX3 : Hid (rMake x b r = tidyR0 x (r3, c3)) := Lib.hid (by rw [HX2.out, HQ.out.1])
   have HB := Lib.hid (bad_r c3 w3)
   by_cases hc : c3 = 0 ∨ c3 = 11
   ·have HX : Hid (rMake x b r = (r3, c3)) := Lib.hid (HX3.out.trans (if_pos hc))
    rw [bad_no hc] at HB
    clear hc
    go_wp2_with fail
    refine HB.out.mono ?_
    rintro e w4 ⟨rfl, rfl⟩
    go_wp2_with fail
    go_ret
    rw [HX.out]
    exact ⟨rfl, HQ.out.2.1.more (by omega), HQ.out.2.2⟩
   ·have HX : Hid (rMake x b r = ((rUnlink x r3).1, c3)) := Lib.hid (HX3.out.trans (if_neg hc))
    rw [bad_yes hc] at HB
    have HU := Lib.hid (rsaway_two HQ.out.2.1 (by omega) x)
    clear hc
    go_wp2_with fail
    refine HB.out.mono ?_
    rintro e w4 ⟨rfl, rfl⟩
    go_wp2_with fail
    refine HU.out.mono ?_
    rintro e w5 ⟨rfl, h5, m5⟩
    have H5 := Lib.hid h5
    have HM5 := Lib.hid (HQ.out.2.2.trans m5 (fun y hy _ => hy))
    clear h5 m5
    go_wp2_with fail
    go_ret
    rw [HX.out]
    exact ⟨rfl, H5.out.more (by omega), HM5.out⟩
  ·have HX : Hid (rMake x b r = (r1, c1)) := Lib.hid (HX1.out.trans (if_pos hc))
   have hc' : (c1 != 0) = true := by simp [hc]
   clear hc HX1
   go_wp2_with fail
   go_ret
   rw [HX.out]
   exact ⟨rfl, H1.out.more (by omega), HM.out⟩
end
end Rs
end Go.Proofs.YtchjncnolmiejaaGreat

/- ref16's Swap, both disks side by side. (MADE BY gen_rsswap.py.) -/
namespace Go.Proofs.YtchjncnolmiejaaGreat
open Go.RowKit
namespace Rs
open Vd Rf Sf
open Go.Maps
section
variable {L : List Nat} {W w : World} {g m : Nat} {d : Dsk} {r : RDsk} {k : Nat}
set_option maxRecDepth 100000 in
set_option maxHeartbeats 8000000 in
theorem rsswap_two (h : TwoAt L W w g d m r k) (hk : k ≤ 89900) (x : Str) (hx : x.length ≤ 1000000000) {b : Str} {p0 : Option Addr} {c0 : Nat} (hb : Stay2 L W w (.slice p0 b.length c0) (b.map u8v)) (hbl : b.length ≤ 1000000000) : Calls Tryz.prog 14 #[.pointer (some ⟨m, 0, none⟩), .string (bstr x), .slice p0 b.length c0] w (TwoDid L W w g d m (rSwap x b r).1 (k + 40) (.int .i64 (rSwap x b r).2)) := by
 have H := Lib.hid h
 have HS := Lib.hid hb
 have hsx := bstr_size x
 have HX0 : Hid (rSwap x b r = if 30 < x.length then (r, 3) else if hasR r (x ++ dotN) then (if (unlinkR r (x ++ dotN)).2 ≠ 0 then unlinkR r (x ++ dotN) else rSwap1 x (x ++ dotN) b (unlinkR r (x ++ dotN)).1) else rSwap1 x (x ++ dotN) b r) := Lib.hid rfl
 clear h hb
 by_cases h30 : 30 < x.length
 ·have HX := Lib.hid (HX0.out.trans (if_pos h30))
  have h30' : (30 : Int) < (x.length : Int) := by omega
  go_enter Tryz.func14, Tryz.ntmps14
  go_wp2_with fail
  go_ret
  rw [HX.out]
  exact ⟨rfl, H.out.more (by omega), Mods.refl _ _⟩
 have HX1 := Lib.hid (HX0.out.trans (if_neg h30))
 have h30' : decide ((30 : Int) < (x.length : Int)) = false := by simp; omega
 obtain ⟨n, hn⟩ : ∃ n, n = x ++ dotN := ⟨_, rfl⟩
 have hnl : n.length ≤ 100 := by rw [hn]; simp [dotN]; omega
 have happ : bstr x ++ (⟨#[46, 110]⟩ : ByteArray) = bstr n := by rw [hn]; exact Frm.bstr_append x dotN
 rw [← hn] at HX1
 have hs2 : (⟨#[46, 110]⟩ : ByteArray).size = 2 := rfl
 clear hn HX0
 have HHA := Lib.hid (rshas_two H.out n)
 have HU := Lib.hid (runlink_two H.out (by omega) n)
 generalize hasR r n = hh at *
 generalize unlinkR r n = q1 at *
 obtain ⟨r1, c1⟩ := q1
 simp only at HX1 HU
 go_enter Tryz.func14, Tryz.ntmps14
 go_wp2_with fail
 refine HHA.out.mono ?_
 rintro e w2 ⟨rfl, rfl⟩
 clear HHA happ hs2 hsx
 go_upto_if 17 with fail
 go_cut [] (fun wx => ∃ r0, Hid (rSwap x b r = rSwap1 x n b r0 ∧ TwoAt L W wx g d m r0 (k + 3) ∧ Mods (fun y => W.heap.size ≤ y ∧ y ∉ L) w wx))
 case first =>
  cases hh with
  | false =>
   have HX2 := Lib.hid (HX1.out.trans (if_neg (by simp)))
   go_wp2_with fail
   go_meet
   exact ⟨r, Lib.hid ⟨HX2.out, H.out.more (by omega), Mods.refl _ _⟩⟩
  | true =>
   have HX2 := Lib.hid (HX1.out.trans (if_pos rfl))
   go_wp2_with fail
   refine HU.out.mono ?_
   rintro e w1 ⟨rfl, h1, m1⟩
   have H1 := Lib.hid h1
   have HM := Lib.hid m1
   clear h1 m1 HU
   by_cases hc : c1 = 0
   ·subst hc
    have HX3 := Lib.hid (HX2.out.trans (if_neg (by simp)))
    go_wp2_with fail
    go_meet
    exact ⟨r1, Lib.hid ⟨HX3.out, H1.out, HM.out⟩⟩
   ·have HX3 := Lib.hid (HX2.out.trans (if_pos hc))
    have hc' : (c1 != 0) = true := by simp [hc]
    clear hc
    go_wp2_with fail
    go_ret
    rw [HX3.out]
    exact ⟨rfl, H1.out.more (by omega), HM.out⟩
 case rest =>
 obtain ⟨r0, HQ0⟩ := hcut
 obtain ⟨w0, rfl⟩ : ∃ z : World, z = wc := ⟨_, rfl⟩
 have HXS : Hid (rSwap x b r = tidyR n (thenR (thenR (thenR (createR r0 n) (rAppend n b)) (fun r => renameR r n x)) rDir)) := HQ0.out.1 |> Lib.hid
 clear HX1 HU
 have HCR := Lib.hid (rcreate_two HQ0.out.2.1 (by omega) n (by omega))
 obtain ⟨r1', c1', hcr⟩ : ∃ a b', createR r0 n = (a, b') := ⟨_, _, rfl⟩
 rw [hcr] at HCR
 have HCE := Lib.hid hcr
 clear hcr
 go_wp2_with fail
 refine HCR.out.mono ?_
 rintro e w1 ⟨rfl, h1, m1⟩
 have HQ1 := Lib.hid (show createR r0 n = (r1', c1') ∧ TwoAt L W w1 g d m r1' (k + 6) ∧ Mods (fun y => W.heap.size ≤ y ∧ y ∉ L) w w1 from ⟨HCE.out, h1.more (by omega), HQ0.out.2.2.trans m1 (fun y hy _ => hy)⟩)
 clear h1 m1 HCR HCE
 obtain ⟨r1, rfl⟩ : ∃ z, z = r1' := ⟨_, rfl⟩
 obtain ⟨c1, rfl⟩ : ∃ z, z = c1' := ⟨_, rfl⟩
 go_upto_if 28 with fail
 go_cut [9] (fun ev wx => ∃ r' c', ev = .int .i64 c' ∧ Hid (thenR (createR r0 n) (rAppend n b) = (r', c') ∧ TwoAt L W wx g d m r' (k + 15) ∧ Mods (fun y => W.heap.size ≤ y ∧ y ∉ L) w wx))
 case first =>
  have HT0 : Hid (thenR (createR r0 n) (rAppend n b) = if c1 = 0 then rAppend n b r1 else (r1, c1)) := Lib.hid (by show thenR (createR r0 n) _ = _; rw [HQ1.out.1]; rfl)
  by_cases hc : c1 = 0
  ·subst hc
   have HT := Lib.hid (HT0.out.trans (if_pos rfl))
   have HD := Lib.hid (rsappend_two HQ1.out.2.1 (by omega) n (HS.out.mods HQ1.out.2.2) hbl)
   generalize rAppend n b r1 = q3 at *
   obtain ⟨r3, c3⟩ := q3
   go_wp2_with fail
   refine HD.out.mono ?_
   rintro e w3 ⟨rfl, h3, m3⟩
   have H3 := Lib.hid h3
   have HM3 := Lib.hid (HQ1.out.2.2.trans m3 (fun y hy _ => hy))
   clear h3 m3 HD
   go_wp2_with fail
   go_meet
   exact ⟨r3, c3, rfl, Lib.hid ⟨HT.out, H3.out.more (by omega), HM3.out⟩⟩
  ·have HT := Lib.hid (HT0.out.trans (if_neg hc))
   have hc' : (c1 == 0) = false := by simp [hc]
   clear hc
   go_wp2_with fail
   go_meet
   exact ⟨r1, c1, rfl, Lib.hid ⟨HT.out, HQ1.out.2.1.more (by omega), HQ1.out.2.2⟩⟩
 case rest =>
 obtain ⟨r2, c2, rfl, HQ2⟩ := hcut
 obtain ⟨w2, rfl⟩ : ∃ z : World, z = wc := ⟨_, rfl⟩
 go_upto_if 34 with fail
 go_cut [9] (fun ev wx => ∃ r' c', ev = .int .i64 c' ∧ Hid (thenR (thenR (createR r0 n) (rAppend n b)) (fun r => renameR r n x) = (r', c') ∧ TwoAt L W wx g d m r' (k + 18) ∧ Mods (fun y => W.heap.size ≤ y ∧ y ∉ L) w wx))
 case first =>
  have HT0 : Hid (thenR (thenR (createR r0 n) (rAppend n b)) (fun r => renameR r n x) = if c2 = 0 then renameR r2 n x else (r2, c2)) := Lib.hid (by show thenR (thenR (createR r0 n) (rAppend n b)) _ = _; rw [HQ2.out.1]; rfl)
  by_cases hc : c2 = 0
  ·subst hc
   have HT := Lib.hid (HT0.out.trans (if_pos rfl))
   have HD := Lib.hid (rrename_two HQ2.out.2.1 (by omega) n x (by omega))
   generalize renameR r2 n x = q3 at *
   obtain ⟨r3, c3⟩ := q3
   go_wp2_with fail
   refine HD.out.mono ?_
   rintro e w3 ⟨rfl, h3, m3⟩
   have H3 := Lib.hid h3
   have HM3 := Lib.hid (HQ2.out.2.2.trans m3 (fun y hy _ => hy))
   clear h3 m3 HD
   go_wp2_with fail
   go_meet
   exact ⟨r3, c3, rfl, Lib.hid ⟨HT.out, H3.out.more (by omega), HM3.out⟩⟩
  ·have HT := Lib.hid (HT0.out.trans (if_neg hc))
   have hc' : (c2 == 0) = false := by simp [hc]
   clear hc
   go_wp2_with fail
   go_meet
   exact ⟨r2, c2, rfl, Lib.hid ⟨HT.out, HQ2.out.2.1.more (by omega), HQ2.out.2.2⟩⟩
 case rest =>
 obtain ⟨r3, c3, rfl, HQ3⟩ := hcut
 obtain ⟨w3, rfl⟩ : ∃ z : World, z = wc := ⟨_, rfl⟩
 go_upto_if 40 with fail
 go_cut [9] (fun ev wx => ∃ r' c', ev = .int .i64 c' ∧ Hid (thenR (thenR (thenR (createR r0 n) (rAppend n b)) (fun r => renameR r n x)) rDir = (r', c') ∧ TwoAt L W wx g d m r' (k + 24) ∧ Mods (fun y => W.heap.size ≤ y ∧ y ∉ L) w wx))
 case first =>
  have HT0 : Hid (thenR (thenR (thenR (createR r0 n) (rAppend n b)) (fun r => renameR r n x)) rDir = if c3 = 0 then rDir r3 else (r3, c3)) := Lib.hid (by show thenR (thenR (thenR (createR r0 n) (rAppend n b)) (fun r => renameR r n x)) _ = _; rw [HQ3.out.1]; rfl)
  by_cases hc : c3 = 0
  ·subst hc
   have HT := Lib.hid (HT0.out.trans (if_pos rfl))
   have HD := Lib.hid (rsdir_two HQ3.out.2.1 (by omega))
   generalize rDir r3 = q4 at *
   obtain ⟨r4, c4⟩ := q4
   go_wp2_with fail
   refine HD.out.mono ?_
   rintro e w3 ⟨rfl, h3, m3⟩
   have H3 := Lib.hid h3
   have HM3 := Lib.hid (HQ3.out.2.2.trans m3 (fun y hy _ => hy))
   clear h3 m3 HD
   go_wp2_with fail
   go_meet
   exact ⟨r4, c4, rfl, Lib.hid ⟨HT.out, H3.out.more (by omega), HM3.out⟩⟩
  ·have HT := Lib.hid (HT0.out.trans (if_neg hc))
   have hc' : (c3 == 0) = false := by simp [hc]
   clear hc
   go_wp2_with fail
   go_meet
   exact ⟨r3, c3, rfl, Lib.hid ⟨HT.out, HQ3.out.2.1.more (by omega), HQ3.out.2.2⟩⟩
 case rest =>
 obtain ⟨r4, c4, rfl, HQ4⟩ := hcut
 obtain ⟨w4, rfl⟩ : ∃ z : World, z = wc := ⟨_, rfl⟩
 have HX3 : Hid (rSwap x b r = tidyR n (r4, c4)) := Lib.hid (by rw [HXS.out, HQ4.out.1])
 have HB := Lib.hid (bad_r c4 w4)
 have HHB := Lib.hid (rshas_two HQ4.out.2.1 n)
 by_cases hc : c4 = 0 ∨ c4 = 11
 ·have HX : Hid (rSwap x b r = (r4, c4)) := Lib.hid (HX3.out.trans (if_pos (hc.imp id .inl)))
  rw [bad_no hc] at HB
  clear hc
  go_wp2_with fail
  refine HB.out.mono ?_
  rintro e w5 ⟨rfl, rfl⟩
  go_wp2_with fail
  go_ret
  rw [HX.out]
  exact ⟨rfl, HQ4.out.2.1.more (by omega), HQ4.out.2.2⟩
 ·rw [bad_yes hc] at HB
  cases hb4 : hasR r4 n with
  | false =>
   have HX : Hid (rSwap x b r = (r4, c4)) := Lib.hid (HX3.out.trans (if_pos (.inr (.inr hb4))))
   rw [hb4] at HHB
   clear hc hb4
   go_wp2_with fail
   refine HB.out.mono ?_
   rintro e w5 ⟨rfl, rfl⟩
   go_wp2_with fail
   refine HHB.out.mono ?_
   rintro e w6 ⟨rfl, rfl⟩
   go_wp2_with fail
   go_ret
   rw [HX.out]
   exact ⟨rfl, HQ4.out.2.1.more (by omega), HQ4.out.2.2⟩
  | true =>
   have HX : Hid (rSwap x b r = ((rUnlink n r4).1, c4)) := Lib.hid (HX3.out.trans (if_neg (by simp only [hb4]; simp; exact ⟨fun e => hc (.inl e), fun e => hc (.inr e)⟩)))
   rw [hb4] at HHB
   have HU := Lib.hid (rsaway_two HQ4.out.2.1 (by omega) n)
   clear hc hb4
   go_wp2_with fail
   refine HB.out.mono ?_
   rintro e w5 ⟨rfl, rfl⟩
   go_wp2_with fail
   refine HHB.out.mono ?_
   rintro e w6 ⟨rfl, rfl⟩
   go_wp2_with fail
   refine HU.out.mono ?_
   rintro e w5 ⟨rfl, h5, m5⟩
   have H5 := Lib.hid h5
   have HM5 := Lib.hid (HQ4.out.2.2.trans m5 (fun y hy _ => hy))
   clear h5 m5
   go_wp2_with fail
   go_ret
   rw [HX.out]
   exact ⟨rfl, H5.out.more (by omega), HM5.out⟩
end
end Rs
end Go.Proofs.YtchjncnolmiejaaGreat

/- ref16's Tidy, both disks side by side. (MADE BY gen_rstidy.py.) -/
namespace Go.Proofs.YtchjncnolmiejaaGreat
open Go.RowKit
namespace Rs
open Vd Rf Sf
open Go.Maps
def strV (x : Str) : Value := .string (bstr x)
theorem own_n {w : World} {base : Nat} {e : TypeId} {p : Option Addr} {n c : Nat} {l : List Value} (h : Own w base e (.slice p n c) l) : n = l.length := by
 obtain ⟨p', c', hv, -, -⟩ := h.row.form
 simp only [Value.slice.injEq] at hv
 exact hv.2.1
theorem rowAtV {w : World} {p : Option Addr} {n c : Nat} {l : List Value} (h : Row w (.slice p n c) l) {i : Nat} (hi : i < l.length) : ∃ b off, p = some ⟨b, off, none⟩ ∧ w.cell? ⟨b, off + i, none⟩ = some l[i] := by
 rcases h with ⟨a0, cap', hv, hl, -, -⟩ | ⟨b, off, cap', hv, -, -, hc⟩
 ·subst hl
  simp at hi
 ·simp only [Value.slice.injEq] at hv
  exact ⟨b, off, hv.1, hc i _ (List.getElem?_eq_getElem hi)⟩
section
variable {L : List Nat} {W w w1 : World} {g m : Nat} {d : Dsk} {r : RDsk} {k : Nat}
/-- a slice of one's own is set aside -/
theorem TwoAt.own (h : TwoAt L W w g d m r k) (hk : Keeps w w1) {e : TypeId} {v : Value} {l : List Value} (ho : Own w1 w.heap.size e v l) : ∃ L', (∀ y ∈ L, y ∈ L') ∧ TwoAt L' W w1 g d m r k ∧ Stay2 L' W w1 v l := by
 have ho2 := ho
 rcases ho.2 with ⟨hv, hl⟩ | ⟨b, cap, cur, hv, hb, hgg, rest⟩
 ·have hl0 : l = [] := List.eq_nil_of_length_eq_zero hl
  subst hl0
  subst hv
  exact ⟨L, fun y hy => hy, h.keeps hk, fun T w' _ _ => row_nil w'⟩
 ·subst hv
  refine ⟨b :: L, fun y hy => List.mem_cons_of_mem _ hy, h.aside hk hb (Array.getElem?_eq_some_iff.1 hgg).1, fun T w' hT hm => ?_⟩
  exact row_modsB ho2.row hm (fun hh => (hT b hh).2 (List.mem_cons_self ..))
theorem mods_less {L' : List Nat} (hL : ∀ y ∈ L, y ∈ L') {w w' : World} (hm : Mods (fun y => W.heap.size ≤ y ∧ y ∉ L') w w') : Mods (fun y => W.heap.size ≤ y ∧ y ∉ L) w w' := hm.mono (fun y hy => ⟨hy.1, fun h => hy.2 (hL y h)⟩)
end
end Rs
end Go.Proofs.YtchjncnolmiejaaGreat

/- The document's disk: Known. (MADE BY gen_rfknown.py.) -/
namespace Go.Proofs.YtchjncnolmiejaaGreat
open Go.RowKit
namespace Rf
open Vd
theorem any_drop {α : Type} (f : α → Bool) {l : List α} {j : Nat} (h : j < l.length) : (l.drop j).any f = (f l[j] || (l.drop (j + 1)).any f) := by
 rw [List.drop_eq_getElem_cons h, List.any_cons]
section
variable {w : World} {M : Nat → Prop} {m : Nat} {d : RDsk} {k : Nat} {fv nv sv wv : Value} {fw : List Value}
theorem RefIn.turnAt (h : RefIn w M m fv nv sv wv fw d k) {j : Nat} (hj : j < d.waits.length) : ∃ b off cap, wv = .slice (some ⟨b, off, none⟩) d.waits.length cap ∧ w.cell? ⟨b, off + j * 3 + 2, none⟩ = some (.int .i64 d.waits[j].file) := by
 obtain ⟨b, off, cap, hv, -, -, hc⟩ := RowS.at_ (rowS_of h.turns) (by omega)
 refine ⟨b, off, cap, hv, ?_⟩
 rw [Nat.add_assoc]
 refine hc.out (j * 3 + 2) _ ?_
 rw [flat_get trC_len d.waits j 2 _ (List.getElem?_eq_getElem hj) (by decide)]
 rfl
set_option maxRecDepth 100000 in
set_option maxHeartbeats 2000000 in
theorem known_r (h : RefAt w M m d k) (hk : k ≤ 1000000) (i : Nat) (hi : i ≤ 1000000) : Calls Tryz.prog 63 #[.pointer (some ⟨m, 0, none⟩), .int .i64 (i : Int)] w fun e w' => e = .returned (.bool (knownR d i)) ∧ w = w' := by
 obtain ⟨fv, nv, sv, wv, fw, h⟩ := h
 have H := Lib.hid h
 obtain ⟨-, c1, c2, c3, -⟩ := h.cells
 obtain ⟨pn, cn, rfl, -, -⟩ := Frm.ownsRow_form h.now
 obtain ⟨ps, cs, rfl, -, -⟩ := Frm.ownsRow_form h.sure
 obtain ⟨pw, cw, rfl, -, -⟩ := Frm.ownsRow_form h.turns
 have hk1 : d.now.length ≤ 1000000 := Nat.le_trans h.fit.n hk
 have hk2 : d.sure.length ≤ 1000000 := Nat.le_trans h.fit.s hk
 have hk3 : d.waits.length ≤ 1000000 := Nat.le_trans h.fit.w hk
 clear h
 obtain ⟨n1, hn1⟩ : ∃ n, n = d.now.length := ⟨_, rfl⟩
 obtain ⟨n2, hn2⟩ : ∃ n, n = d.sure.length := ⟨_, rfl⟩
 obtain ⟨n3, hn3⟩ : ∃ n, n = d.waits.length := ⟨_, rfl⟩
 rw [← hn1] at c1 hk1
 rw [← hn2] at c2 hk2
 rw [← hn3] at c3 hk3
 have Hn1 := Lib.hid hn1
 have Hn2 := Lib.hid hn2
 have Hn3 := Lib.hid hn3
 clear hn1 hn2 hn3
 go_enter Tryz.func63, Tryz.ntmps63
 go_wp2_with fail
 go_loopw [5] (fun ix wr => ∃ j : Nat, ix = .int .i64 (j : Int) ∧ j ≤ n1 ∧ wr = w ∧ Hid ((d.now.drop j).any (fun p => decide (p.2 = i)) = d.now.any (fun p => decide (p.2 = i)))) (fun ix _ => n1 - (RowKit.intOf ix).toNat)
 case atStart => exact ⟨0, rfl, Nat.zero_le _, rfl, Lib.hid rfl⟩
 case round =>
  obtain ⟨j, rfl, hj, hw, HL⟩ := hrel
  have hw := hw.symm
  subst hw
  by_cases hlt : j < n1
  ·have hjl : j < d.now.length := by rw [← Hn1.out]; exact hlt
   obtain ⟨b, off, cap, hv, -, -, hc1⟩ := NmsAt.one (NmsOwn.at_ H.out.now) hjl
   rw [← Hn1.out] at hv
   simp only [Value.slice.injEq] at hv
   obtain ⟨rfl, -, rfl⟩ := hv
   have HST := Lib.hid (show (d.now.drop j).any (fun p => decide (p.2 = i)) = (decide ((d.now[j].2 : Int) = (i : Int)) || (d.now.drop (j + 1)).any (fun p => decide (p.2 = i))) from by
    rw [any_drop (fun p => decide (p.2 = i)) hjl]
    exact congrArg (· || _) (decide_eq_decide.2 (by omega)))
   have hlt' : (j : Int) < (n1 : Int) := by omega
   generalize (d.now[j].2 : Int) = y at *
   by_cases hyx : y = (i : Int)
   ·have HX := Lib.hid (show d.now.any (fun p => decide (p.2 = i)) = true from by rw [← HL.out, HST.out, decide_eq_true hyx]; rfl)
    have hb : (y == (i : Int)) = true := by simpa using hyx
    clear hyx HST hjl
    go_wp2_with fail
    go_ret
    exact ⟨by rw [show knownR d i = true from by unfold knownR; rw [HX.out, Bool.true_or, Bool.true_or]]; rfl, rfl⟩
   ·have HX := Lib.hid (show (d.now.drop (j + 1)).any (fun p => decide (p.2 = i)) = d.now.any (fun p => decide (p.2 = i)) from by rw [← HL.out, HST.out, decide_eq_false hyx, Bool.false_or])
    have hb : (y == (i : Int)) = false := by simpa using hyx
    clear hyx HST hjl HL
    go_wp2_with fail
    go_roundw
    case rel => exact ⟨j + 1, by simp, by omega, trivial, HX⟩
    case measure =>
     simp only [RowKit.intOf]
     omega
  ·have hjn : j = n1 := by omega
   have HAn1 := Lib.hid (show d.now.any (fun p => decide (p.2 = i)) = false from by rw [← HL.out, hjn, Hn1.out, List.drop_length]; rfl)
   have hlt' : decide ((j : Int) < (n1 : Int)) = false := by simp; omega
   clear HL hjn
   go_wp2_with fail
   go_loopw [6] (fun ix wr => ∃ j : Nat, ix = .int .i64 (j : Int) ∧ j ≤ n2 ∧ wr = w ∧ Hid ((d.sure.drop j).any (fun p => decide (p.2 = i)) = d.sure.any (fun p => decide (p.2 = i)))) (fun ix _ => n2 - (RowKit.intOf ix).toNat)
   case atStart => exact ⟨0, rfl, Nat.zero_le _, rfl, Lib.hid rfl⟩
   case round =>
    obtain ⟨j, rfl, hj, hw, HL⟩ := hrel
    have hw := hw.symm
    subst hw
    by_cases hlt : j < n2
    ·have hjl : j < d.sure.length := by rw [← Hn2.out]; exact hlt
     obtain ⟨b, off, cap, hv, -, -, hc1⟩ := NmsAt.one (NmsOwn.at_ H.out.sure) hjl
     rw [← Hn2.out] at hv
     simp only [Value.slice.injEq] at hv
     obtain ⟨rfl, -, rfl⟩ := hv
     have HST := Lib.hid (show (d.sure.drop j).any (fun p => decide (p.2 = i)) = (decide ((d.sure[j].2 : Int) = (i : Int)) || (d.sure.drop (j + 1)).any (fun p => decide (p.2 = i))) from by
      rw [any_drop (fun p => decide (p.2 = i)) hjl]
      exact congrArg (· || _) (decide_eq_decide.2 (by omega)))
     have hlt' : (j : Int) < (n2 : Int) := by omega
     generalize (d.sure[j].2 : Int) = y at *
     by_cases hyx : y = (i : Int)
     ·have HX := Lib.hid (show d.sure.any (fun p => decide (p.2 = i)) = true from by rw [← HL.out, HST.out, decide_eq_true hyx]; rfl)
      have hb : (y == (i : Int)) = true := by simpa using hyx
      clear hyx HST hjl
      go_wp2_with fail
      go_ret
      exact ⟨by rw [show knownR d i = true from by unfold knownR; rw [HAn1.out, HX.out, Bool.or_true, Bool.true_or]]; rfl, rfl⟩
     ·have HX := Lib.hid (show (d.sure.drop (j + 1)).any (fun p => decide (p.2 = i)) = d.sure.any (fun p => decide (p.2 = i)) from by rw [← HL.out, HST.out, decide_eq_false hyx, Bool.false_or])
      have hb : (y == (i : Int)) = false := by simpa using hyx
      clear hyx HST hjl HL
      go_wp2_with fail
      go_roundw
      case rel => exact ⟨j + 1, by simp, by omega, trivial, HX⟩
      case measure =>
       simp only [RowKit.intOf]
       omega
    ·have hjn : j = n2 := by omega
     have HAn2 := Lib.hid (show d.sure.any (fun p => decide (p.2 = i)) = false from by rw [← HL.out, hjn, Hn2.out, List.drop_length]; rfl)
     have hlt' : decide ((j : Int) < (n2 : Int)) = false := by simp; omega
     clear HL hjn
     go_wp2_with fail
     go_loopw [7] (fun ix wr => ∃ j : Nat, ix = .int .i64 (j : Int) ∧ j ≤ n3 ∧ wr = w ∧ Hid ((d.waits.drop j).any (fun t => decide (t.file = (i : Int))) = d.waits.any (fun t => decide (t.file = (i : Int))))) (fun ix _ => n3 - (RowKit.intOf ix).toNat)
     case atStart => exact ⟨0, rfl, Nat.zero_le _, rfl, Lib.hid rfl⟩
     case round =>
      obtain ⟨j, rfl, hj, hw, HL⟩ := hrel
      have hw := hw.symm
      subst hw
      by_cases hlt : j < n3
      ·have hjl : j < d.waits.length := by rw [← Hn3.out]; exact hlt
       obtain ⟨b, off, cap, hv, hc1⟩ := H.out.turnAt hjl
       rw [← Hn3.out] at hv
       simp only [Value.slice.injEq] at hv
       obtain ⟨rfl, -, rfl⟩ := hv
       have HST := Lib.hid (show (d.waits.drop j).any (fun t => decide (t.file = (i : Int))) = (decide (d.waits[j].file = (i : Int)) || (d.waits.drop (j + 1)).any (fun t => decide (t.file = (i : Int)))) from by
        rw [any_drop (fun t => decide (t.file = (i : Int))) hjl]
        skip)
       have hlt' : (j : Int) < (n3 : Int) := by omega
       generalize d.waits[j].file = y at *
       by_cases hyx : y = (i : Int)
       ·have HX := Lib.hid (show d.waits.any (fun t => decide (t.file = (i : Int))) = true from by rw [← HL.out, HST.out, decide_eq_true hyx]; rfl)
        have hb : (y == (i : Int)) = true := by simpa using hyx
        clear hyx HST hjl
        go_wp2_with fail
        go_ret
        exact ⟨by rw [show knownR d i = true from by unfold knownR; rw [HAn1.out, HAn2.out, HX.out, Bool.or_true]]; rfl, rfl⟩
       ·have HX := Lib.hid (show (d.waits.drop (j + 1)).any (fun t => decide (t.file = (i : Int))) = d.waits.any (fun t => decide (t.file = (i : Int))) from by rw [← HL.out, HST.out, decide_eq_false hyx, Bool.false_or])
        have hb : (y == (i : Int)) = false := by simpa using hyx
        clear hyx HST hjl HL
        go_wp2_with fail
        go_roundw
        case rel => exact ⟨j + 1, by simp, by omega, trivial, HX⟩
        case measure =>
         simp only [RowKit.intOf]
         omega
      ·have hjn : j = n3 := by omega
       have HAn3 := Lib.hid (show d.waits.any (fun t => decide (t.file = (i : Int))) = false from by rw [← HL.out, hjn, Hn3.out, List.drop_length]; rfl)
       have hlt' : decide ((j : Int) < (n3 : Int)) = false := by simp; omega
       clear HL hjn
       go_wp2_with fail
       go_ret
       exact ⟨by rw [show knownR d i = false from by unfold knownR; rw [HAn1.out, HAn2.out, HAn3.out]; rfl]; rfl, rfl⟩
end
end Rf
end Go.Proofs.YtchjncnolmiejaaGreat

/- The document's disk, plain: Boot, write by write and file by file. -/
namespace Go.Proofs.YtchjncnolmiejaaGreat
open Go.RowKit
namespace Rf
open Vd
/-- how many bytes of a write are kept -/
def keptR (keep : List Int) (n : Nat) (p : Pat) : Int := min (max (keep.getD n 0) 0) (p.b.length : Int)
def bootS (keep : List Int) (p : Pat) (n : Nat) (s : Str) : Str := if keptR keep n p = 0 then s else overL s p.place (p.b.take (keptR keep n p).toNat)
theorem kept_in (keep : List Int) (n : Nat) (p : Pat) : 0 ≤ keptR keep n p ∧ keptR keep n p ≤ (p.b.length : Int) := by
 unfold keptR
 omega
theorem bootW_fst (keep : List Int) : ∀ (ps : List Pat) (n : Nat) (s : Str), (bootW keep ps n s).1 = n + ps.length
 | [], n, s => rfl
 | p :: ps, n, s => by
  unfold bootW
  rw [bootW_fst keep ps]
  simp
  omega
theorem bootW_app (keep : List Int) (p : Pat) : ∀ (ps : List Pat) (n : Nat) (s : Str), bootW keep (ps ++ [p]) n s = (n + ps.length + 1, bootS keep p (n + ps.length) (bootW keep ps n s).2)
 | [], n, s => rfl
 | q :: ps, n, s => by
  have ih := bootW_app keep p ps (n + 1)
  rw [List.cons_append]
  unfold bootW
  rw [ih]
  simp only [List.length_cons]
  rw [show n + 1 + ps.length = n + (ps.length + 1) from by omega]
theorem bootS_len {keep : List Int} {p : Pat} {n : Nat} {s : Str} (hs : s.length ≤ 1000000000) (hp : p.place + p.b.length ≤ 1000000000) : (bootS keep p n s).length ≤ 1000000000 := by
 unfold bootS
 split
 ·exact hs
 ·rw [overL_len, List.length_take]
  omega
theorem bootW_len (keep : List Int) : ∀ (ps : List Pat) (n : Nat) (s : Str), s.length ≤ 1000000000 → (∀ p ∈ ps, p.place + p.b.length ≤ 1000000000) → (bootW keep ps n s).2.length ≤ 1000000000
 | [], n, s, hs, _ => hs
 | p :: ps, n, s, hs, hp => by
  unfold bootW
  exact bootW_len keep ps _ _ (bootS_len (keep := keep) (n := n) hs (hp p (List.mem_cons_self ..))) (fun q hq => hp q (List.mem_cons_of_mem _ hq))
/-- the first writes of a file -/
def bootT (keep : List Int) (ws : List Pat) (n : Nat) (s : Str) (j : Nat) : Str := (bootW keep (ws.take j) n s).2
theorem bootT_succ {keep : List Int} {ws : List Pat} {n : Nat} {s : Str} {j : Nat} (h : j < ws.length) : bootT keep ws n s (j + 1) = bootS keep ws[j] (n + j) (bootT keep ws n s j) := by
 unfold bootT
 rw [List.take_succ_eq_append_getElem h, bootW_app, List.length_take, show min j ws.length = j from by omega]
theorem bootT_len {keep : List Int} {ws : List Pat} {n : Nat} {s : Str} (hs : s.length ≤ 1000000000) (hp : ∀ p ∈ ws, p.place + p.b.length ≤ 1000000000) (j : Nat) : (bootT keep ws n s j).length ≤ 1000000000 :=
 bootW_len keep _ _ _ hs (fun p h => hp p (List.mem_of_mem_take h))
/-- the first files -/
def bootN' (d : RDsk) (keep : List Int) (i : Nat) : Nat := (bootF d keep i 0).2
def bootL (d : RDsk) (keep : List Int) (i : Nat) : List RFil := (bootF d keep i 0).1
theorem boot_step {d : RDsk} (keep : List Int) {i : Nat} (hi : i < d.files.length) {q : Nat} {s : Str} (hk : knownR d i = true → q = d.files[i].waits.length) (hn : knownR d i = false → q = 0) (hs : s = bootT keep d.files[i].waits (bootN' d keep i) d.files[i].sure q) :
  bootN' d keep (i + 1) = bootN' d keep i + q ∧ bootL d keep (i + 1) = bootL d keep i ++ [⟨s, s, []⟩] := by
 unfold bootN' bootL
 rw [bootF_succ, filAt_get hi]
 cases hb : knownR d i with
 | true =>
  obtain rfl := hk hb
  simp only [if_true]
  refine ⟨bootW_fst _ _ _ _, ?_⟩
  rw [hs]
  unfold bootT
  rw [List.take_length]
  rfl
 | false =>
  obtain rfl := hn hb
  simp only [Bool.false_eq_true, if_false]
  rw [hs]
  exact ⟨rfl, rfl⟩
theorem bootL_len (d : RDsk) (keep : List Int) : ∀ j, (bootL d keep j).length = j
 | 0 => rfl
 | j + 1 => by
  unfold bootL
  rw [bootF_succ, List.length_append]
  have := bootL_len d keep j
  unfold bootL at this
  rw [this]
  rfl
theorem bootN_le {d : RDsk} {k : Nat} (hp : ∀ x ∈ d.files, x.waits.length ≤ k) (keep : List Int) : ∀ j, j ≤ d.files.length → bootN' d keep j ≤ j * k
 | 0, _ => Nat.zero_le _
 | j + 1, hj => by
  have ih := bootN_le hp keep j (by omega)
  have h1 := hp d.files[j] (List.getElem_mem (by omega))
  have h2 := (boot_step (d := d) keep (i := j) (by omega) (q := if knownR d j then d.files[j].waits.length else 0) (fun h => if_pos h) (fun h => if_neg (by simp [h])) rfl).1
  rw [h2, Nat.succ_mul]
  split <;> omega
/-- what the files become -/
theorem bootL_ok {d : RDsk} (hb : ∀ x ∈ d.files, x.sure.length ≤ 1000000000) (hp : ∀ i (h : i < d.files.length), knownR d i = true → ∀ p ∈ d.files[i].waits, p.place + p.b.length ≤ 1000000000) (keep : List Int) : ∀ j, j ≤ d.files.length → ∀ x ∈ bootL d keep j, x.waits = [] ∧ x.now.length ≤ 1000000000 ∧ x.sure.length ≤ 1000000000
 | 0, _, x, hx => absurd hx (List.not_mem_nil)
 | j + 1, hj, x, hx => by
  have h2 := (boot_step (d := d) keep (i := j) (by omega) (q := if knownR d j then d.files[j].waits.length else 0) (fun h => if_pos h) (fun h => if_neg (by simp [h])) rfl).2
  rw [h2] at hx
  rcases List.mem_append.1 hx with hx | hx
  ·exact bootL_ok hb hp keep j (by omega) x hx
  ·rw [List.mem_singleton.1 hx]
   have hs := hb d.files[j] (List.getElem_mem (by omega))
   have : (bootT keep d.files[j].waits (bootN' d keep j) d.files[j].sure (if knownR d j then d.files[j].waits.length else 0)).length ≤ 1000000000 := by
    cases hk : knownR d j with
    | true => exact bootT_len (keep := keep) (n := bootN' d keep j) hs (hp j (by omega) hk) _
    | false => exact hs
   exact ⟨rfl, this, this⟩
/-- a file without writes, as cells -/
def filZ (f : RFil) : List Value := [.string (bstr f.now), .string (bstr f.sure), .slice none 0 0]
theorem filZ_zip : ∀ (l : List RFil), (l.zip (List.replicate l.length (.slice none 0 0))).flatMap filC = l.flatMap filZ
 | [] => rfl
 | f :: l => by
  rw [List.length_cons, List.replicate_succ, List.zip_cons_cons, List.flatMap_cons, List.flatMap_cons, filZ_zip l]
  rfl
theorem goneR_succ {sure : Nms} {ws : List RTurn} {j : Nat} (h : j < ws.length) : goneR sure ws (j + 1) = doR (goneR sure ws j) ws[j] := by
 unfold goneR
 rw [List.take_succ_eq_append_getElem h, List.foldl_append]
 rfl
theorem goneR_all {sure : Nms} {ws : List RTurn} {j : Nat} (h : ws.length ≤ j) : goneR sure ws j = goneR sure ws ws.length := by
 unfold goneR
 rw [List.take_of_length_le h, List.take_of_length_le (Nat.le_refl _)]
end Rf
end Go.Proofs.YtchjncnolmiejaaGreat

/- law17's awake. -/
namespace Go.Proofs.YtchjncnolmiejaaGreat
open Go.RowKit
namespace Txl
open Vd
def tb : List UInt8 := txL 1 []
theorem tb_e : txE 1 [] = 0 := by kernel_rfl
theorem tb_len : tb.length = 38 := by kernel_rfl
theorem tb_rep : rep tb = ([(1, [])], 38) := by kernel_rfl
theorem tb_cut : rep (tb.take 37) = ([], 0) := by kernel_rfl
def nX : Str := [120]
def ax0 : Dsk := ⟨1000, [], [], [], [], false, 0, (-1, 0), (-1, 0)⟩
theorem ax0_new : newD [] 1000 = some ax0 := by kernel_rfl
theorem ax0_few : Few ax0 0 := ⟨by decide, by decide, by decide, by decide, by intro y hy; exact absurd hy (List.not_mem_nil), by decide, by decide⟩
def ax1 : Dsk := (openD ax0 nX).1
theorem ax1_e : (openD ax0 nX).2 = (0, []) := by kernel_rfl
theorem ax1_r : rep [] = ([], 0) := by kernel_rfl
theorem ax2_e : (addD ax1 nX 0 true [[97]]).2 = 0 := by kernel_rfl
theorem ax2_n : (addD ax1 nX 0 true [[97]]).1.2 = 1 := by kernel_rfl
set_option maxRecDepth 100000 in
set_option maxHeartbeats 4000000 in
theorem awake17_any (w : World) : Calls Tryz.prog 5 #[] w fun e w' => e = .returned (.bool true) ∧ Keeps w w' := by
 have HBY := Lib.hid (txBytes_any 1 (by omega) (.slice none 0 0) [] w (.inl ⟨none, 0, rfl, rfl, Nat.zero_le _, fun _ => rfl⟩) (fun y hy => absurd hy (List.not_mem_nil)))
 unfold Frm.RetSI at HBY
 rw [show txE 1 (([] : List (Value × List UInt8)).map (·.2)) = 0 from tb_e, show txL 1 (([] : List (Value × List UInt8)).map (·.2)) = tb from rfl] at HBY
 go_enter Tryz.func5, Tryz.ntmps5
 go_wp2_with fail
 refine HBY.out.mono ?_
 rintro e w1 ⟨tv, rfl, hown, hk1⟩
 have HO := Lib.hid hown
 have HK1 := Lib.hid hk1
 have hform := hown.row.formB
 rw [tb_len] at hform
 obtain ⟨pt, ct, rfl, hc1, hc2⟩ := hform
 have HRW := Lib.hid (show Row w1 (.slice pt 38 ct) (tb.map u8v) from hown.row)
 have HRP := Lib.hid (replay_any (.slice pt 38 ct) tb w1 HRW.out (by rw [tb_len]; omega))
 rw [show replayF (Frm.rowR tb).1 = ([(1, [])], 38) from tb_rep] at HRP
 unfold ReplayDid at HRP
 clear hown hk1 HBY
 go_wp2_with fail
 refine HRP.out.mono ?_
 rintro e w2 ⟨tx, X, rfl, ht, hX, hk2⟩
 have hXl : X.length = 1 := by have := congrArg List.length hX; simpa using this
 obtain ⟨px, cx, rfl, -, -⟩ := Frm.ownsRow_form ht.own
 rw [hXl]
 have HK2 := Lib.hid (HK1.out.trans hk2)
 obtain ⟨pc, hpc⟩ := cutS_sl 1 pt 0 37 ct
 rw [Nat.sub_zero, Nat.sub_zero] at hpc
 have hcut : ∀ w', (Instr.slice 22 (.slice pt 38 ct) none (some (.int .i64 37)) none).run Tryz.prog w' = .ok (.slice pc 37 ct) w' := fun w' => by
  rw [← hpc]
  exact run_cutS_h w' Tryz.underlying22 (by intro w; kernel_rfl) pt 38 ct 37 (by omega)
 have HRC := Lib.hid (show Row w2 (.slice pc 37 ct) ((tb.take 37).map u8v) from by
  have h0 := (HRW.out.keeps hk2).s
  rw [show (tb.map u8v).length = 38 from by rw [List.length_map, tb_len]] at h0
  have := h0.cut (lo := 0) (hi := 37) (Nat.zero_le _) (by omega)
  rw [hpc] at this
  have e : ((tb.map u8v).drop (0 * 1)).take ((37 - 0) * 1) = (tb.take 37).map u8v := by simp [List.map_take]
  rw [e] at this
  exact this.row)
 have HRP2 := Lib.hid (replay_any (.slice pc 37 ct) (tb.take 37) w2 HRC.out (by rw [List.length_take, tb_len]; omega))
 rw [show replayF (Frm.rowR (tb.take 37)).1 = ([], 0) from tb_cut] at HRP2
 unfold ReplayDid at HRP2
 clear hXl ht hX hk2 HRP hpc
 go_wp2_with fail
 refine HRP2.out.mono ?_
 rintro e w3 ⟨ty, Y, rfl, hy, hY, hk3⟩
 have hYl : Y.length = 0 := by have := congrArg List.length hY; simpa using this
 obtain ⟨py, cy, rfl, -, -⟩ := Frm.ownsRow_form hy.own
 rw [hYl]
 have HK3 := Lib.hid (HK2.out.trans hk3)
 clear hYl hy hY hk3 HRP2 hcut
 have HNW := Lib.hid (new_at HK3.out (.slice none 0 0) [] (rowS_none _) (fun f hf => absurd hf (List.not_mem_nil)) 1000)
 unfold NewAt at HNW
 rw [ax0_new] at HNW
 go_wp2_with fail
 refine HNW.out.mono ?_
 rintro e w4 ⟨hk, g, rfl, hd⟩
 have H0 := Lib.hid (show At w w4 g ax0 0 from ⟨hd, hk, ax0_few⟩)
 clear hd hk HNW
 have HOP := Lib.hid (open_any (At.one H0.out) (by omega) nX (by decide))
 unfold OpenDid at HOP
 rw [ax1_e] at HOP
 unfold nX at HOP
 go_wp2_with fail
 refine HOP.out.mono ?_
 rintro e w5 ho
 rw [if_pos trivial] at ho
 obtain ⟨lb, tv, Z, rfl, hlb, hA, hM, hB, hZ, hZe⟩ := ho
 rw [ax1_r] at hB hZe
 have hZl : Z.length = 0 := by have := congrArg List.length hZe; simpa using this
 obtain ⟨pz, cz, rfl, -, -⟩ := Frm.ownsRow_form hZ.own
 rw [hZl]
 have HA := Lib.hid (show OneAt [lb] w w5 g ax1 8 from hA)
 have HB := Lib.hid (show Blk w5 lb 100 (logA g nX 0 true) from hB)
 have HLB := Lib.hid (show w.heap.size ≤ lb from Nat.le_trans H0.out.keep.size hlb)
 clear hlb hA hM hB hZ hZe hZl HOP
 have kc := fun (w : World) (C : Array Value) (n c : Nat) => Lib.run_convert_bytes_const (P := Tryz.prog) w 22 5 C n c Tryz.underlying22 Tryz.underlying5
 have HK5 := Lib.hid (show Keeps w w5 from HA.out.kp)
 obtain ⟨wa, hwa⟩ : ∃ wa, wa = (w5.alloc (.cells #[.int .u8 97] 5 (1, 2))).alloc (.cells #[.slice (some ⟨w5.heap.size, 0, none⟩) 1 1] 22) := ⟨_, rfl⟩
 have HKa := Lib.hid (show Keeps w5 wa from by rw [hwa]; exact ((Keeps.refl _).alloc _).alloc _)
 have HR1 := Lib.hid (show Row wa (.slice (some ⟨w5.heap.size, 0, none⟩) 1 1) (([97] : List UInt8).map u8v) from by
  rw [hwa]
  exact (Frm.row_mark (w := w5) (l := [97].map u8v) rfl rfl (by decide)).keeps ((Keeps.refl _).alloc _))
 have HR2 := Lib.hid (show Row wa (.slice (some ⟨w5.heap.size + 1, 0, none⟩) 1 1) ([((Value.slice (some ⟨w5.heap.size, 0, none⟩) 1 1), ([97] : List UInt8))].map (·.1)) from by
  rw [hwa]
  exact row_alloc (by rw [Frm.alloc_size]) rfl rfl (by unfold maxLen; simp))
 have HAD := Lib.hid (add_any (HA.out.keeps HKa.out) (by omega) (List.mem_cons_self ..) HLB.out (HB.out.keeps HKa.out) (by omega) (by decide) (.slice (some ⟨w5.heap.size + 1, 0, none⟩) 1 1) [((Value.slice (some ⟨w5.heap.size, 0, none⟩) 1 1), ([97] : List UInt8))] HR2.out (fun y hy => by simp at hy; subst hy; exact HR1.out))
 unfold AddDid at HAD
 rw [show addD ax1 nX 0 true ([((Value.slice (some ⟨w5.heap.size, 0, none⟩) 1 1), ([97] : List UInt8))].map (·.2)) = addD ax1 nX 0 true [[97]] from rfl, ax2_e, ax2_n] at HAD
 rw [hwa] at HAD
 generalize addD ax1 nX 0 true [[97]] = r at *
 clear hwa
 go_wp2_with fail
 refine HAD.out.mono ?_
 rintro e w6 ⟨rfl, h6, hb6, -⟩
 have HK6 := Lib.hid h6.kp
 have HLN := Lib.hid (len_any w6 hb6)
 have HWL := Lib.hid (whole_any w6 hb6)
 have HNM := Lib.hid (name_any w6 hb6)
 unfold nX at HNM
 clear h6 hb6 HAD
 have hbn : ((bstr [120]).toList == [120]) = true := by rw [bstr_toList]; rfl
 go_wp2_with fail
 refine HLN.out.mono ?_
 rintro e w7 ⟨rfl, rfl⟩
 go_wp2_with fail
 refine HWL.out.mono ?_
 rintro e w7 ⟨rfl, rfl⟩
 go_wp2_with fail
 refine HNM.out.mono ?_
 rintro e w7 ⟨rfl, rfl⟩
 go_wp2_with fail
 go_ret
 exact ⟨rfl, HK6.out⟩
end Txl
end Go.Proofs.YtchjncnolmiejaaGreat

/- TxlogBytes: its walk. -/
namespace Go.Proofs.YtchjncnolmiejaaGreat
open Go.RowKit
namespace Txl
open Oct Frm
def BulkD (most : Nat) (l : List (Value × List UInt8)) (w : World) (e : Ending) (w' : World) : Prop :=
 ∃ n : Nat, e = .returned (.int .i64 (n : Int)) ∧ n ≤ 20000 ∧ (n ≤ most → ∀ x ∈ l, x.2.length ≤ most) ∧ w = w'
set_option maxRecDepth 100000 in
set_option maxHeartbeats 2000000 in
theorem bulkD_any (most : Nat) (hm : most ≤ 5000) (v : Value) (l : List (Value × List UInt8)) (w : World) (hr : Row w v (l.map (·.1))) (hp : ∀ x ∈ l, payOk w x) : Calls Tryz.prog 33 #[v, .int .i64 (most : Int)] w (BulkD most l w) := by
 obtain ⟨p, cap, rfl, hc1, hc2⟩ := hr.form
 rw [List.length_map] at hc1 ⊢
 have HR := Lib.hid hr
 have HP := Lib.hid hp
 unfold maxLen at hc2
 clear hr hp
 go_enter Tryz.func33, Tryz.ntmps33
 go_wp2_with fail
 go_loopw [5, 6] (fun nv iv wr => ∃ (n i : Nat), nv = .int .i64 (n : Int) ∧ iv = .int .i64 (i : Int) ∧ i ≤ l.length ∧ n ≤ most + most + 2 ∧ Hid (n ≤ most → ∀ x ∈ l.take i, x.2.length ≤ most) ∧ wr = w) (fun _ iv _ => l.length - (intOf iv).toNat)
 case atStart => exact ⟨0, 0, rfl, rfl, Nat.zero_le _, by omega, Lib.hid (by simp), rfl⟩
 case round =>
  obtain ⟨n, i, rfl, rfl, hi, hn, HA, rfl⟩ := hrel
  by_cases hlt : i < l.length
  ·by_cases hn1 : n ≤ most
   ·obtain ⟨b, off, cap', hv, hc⟩ := row_cells HR.out (by rw [List.length_map]; omega)
    simp only [Value.slice.injEq] at hv
    obtain ⟨rfl, -, rfl⟩ := hv
    have hcell : wr.cell? ⟨b, off + i, none⟩ = some l[i].1 := hc.out i _ (by simp [hlt])
    have hpay := HP.out l[i] (List.getElem_mem hlt)
    have HT : Hid (l.take (i + 1) = l.take i ++ [l[i]]) := Lib.hid (List.take_succ_eq_append_getElem hlt)
    generalize l[i] = y at *
    obtain ⟨yv, yl⟩ := y
    unfold payOk at hpay
    obtain ⟨q, qc, hyv, hq1, hq2⟩ := hpay.formB
    simp only at hyv hcell hq1
    subst hyv
    clear hpay hc
    by_cases hy : yl.length ≤ most + 1
    ·have hmin : min (yl.length : Int) ((most : Int) + 1) = yl.length := by omega
     go_wp2_with fail
     go_roundw
     case rel => exact ⟨n + 1 + yl.length, i + 1, by simp, by simp, by omega, by omega, Lib.hid (fun h x hx => by
      rw [HT.out] at hx
      rcases List.mem_append.1 hx with h | h
      ·exact HA.out (by omega) x h
      ·simp at h; subst h; simp only; omega), trivial⟩
     case measure => simp [intOf] <;> omega
    ·have hmin : min (yl.length : Int) ((most : Int) + 1) = (most : Int) + 1 := by omega
     go_wp2_with fail
     go_roundw
     case rel => exact ⟨n + 1 + (most + 1), i + 1, by simp; omega, by simp, by omega, by omega, Lib.hid (fun h x hx => by omega), trivial⟩
     case measure => simp [intOf] <;> omega
   ·go_wp2_with fail
    go_ret
    exact ⟨n, rfl, by omega, fun h => by omega, rfl⟩
  ·have hil : i = l.length := by omega
   have H : Hid (BulkD most l wr (.returned (.int .i64 (n : Int))) wr) := Lib.hid ⟨n, rfl, by omega, fun h x hx => HA.out h x (by rw [hil, List.take_length]; exact hx), rfl⟩
   clear hil
   by_cases hn1 : n ≤ most
   ·go_wp2_with fail
    go_ret
    exact H.out
   ·go_wp2_with fail
    go_ret
    exact H.out
def nils (n : Nat) : List (Value × List UInt8) := List.replicate n (.slice none 0 0, [])
end Txl
end Go.Proofs.YtchjncnolmiejaaGreat
