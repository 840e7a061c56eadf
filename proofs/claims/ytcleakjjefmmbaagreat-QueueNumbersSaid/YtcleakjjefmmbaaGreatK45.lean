/- Several texts in one: QuLoad, QuSmall. -/
import Derived.Test.YtcleakjjefmmbaaGreatQuClone
import Derived.Test.YtcleakjjefmmbaaGreatK43
import Derived.Test.YtcleakjjefmmbaaGreatK39
import Derived.Test.YtcleakjjefmmbaaGreatK21
import Derived.Test.YtcleakjjefmmbaaGreatEnGet
/- queue: load; Get, Len, Next. -/
namespace Go.Proofs.YtcleakjjefmmbaaGreat
open Go.RowKit
namespace Que
open Mp Go.Maps
open Vd (DiskAt Dsk On Few More textD)
open Env (JobP StP TgP JobAt JobOwn tgC stC jobA jobM noJob readR ReadOwn read_own)
open Bds (SlQ)
open Frm (ownsRow_mods ownsRow_keeps ownsRow_base ownsRow_form)
def NewB (w w' : World) (y : Nat) : Prop := w.heap.size ≤ y ∧ y < w'.heap.size
def LoadDid (W : World) (r : (JobP × Bool) × Bool × Int) (e : Ending) (w' : World) : Prop := ∃ kx : KpX, e = .returned (.tuple #[kpV kx.v, .bool r.2.1, .int .i64 r.2.2]) ∧ kx.p = r.1 ∧ KpIs w' (NewB W w') kx ∧ Keeps W w'
theorem load_no {W w : World} {c : Int} (hk : Keeps W w) : LoadDid W ((noJob, false), false, c) (.returned (.tuple #[kpV zeroK, .bool false, .int .i64 c])) w := ⟨kx0, rfl, rfl, kx0_is _ _, hk⟩
theorem kpM : Mids Tryz.prog 118 8 := ⟨⟨_, Tryz.underlying118, rfl⟩, by kernel_rfl⟩
theorem ld_zero {w : World} {r : Nat} (h : Blk w r 118 #[.int .i64 0, .int .i64 0, .string ⟨#[]⟩, .string ⟨#[]⟩, .slice none 0 0, .slice none 0 0, .slice none 0 0, .bool false]) : w.cell? ⟨r, 0, none⟩ = some (.int .i64 0) ∧ w.cell? ⟨r, 1, none⟩ = some (.int .i64 0) ∧ w.cell? ⟨r, 2, none⟩ = some (.string ⟨#[]⟩) ∧ w.cell? ⟨r, 3, none⟩ = some (.string ⟨#[]⟩) ∧ w.cell? ⟨r, 4, none⟩ = some (.slice none 0 0) ∧ w.cell? ⟨r, 5, none⟩ = some (.slice none 0 0) ∧ w.cell? ⟨r, 6, none⟩ = some (.slice none 0 0) ∧ w.cell? ⟨r, 7, none⟩ = some (.bool false) := by
 refine ⟨?_, ?_, ?_, ?_, ?_, ?_, ?_, ?_⟩ <;> (rw [h.cell]; rfl)
set_option maxRecDepth 100000 in
set_option maxHeartbeats 4000000 in
theorem load_any (w : World) {S : Nat → Prop} {gd : Nat} {d : Dsk} (h : DiskAt w S gd d) (x : Str) (hx : x.length ≤ 1000000000) (id : Int) : Calls Tryz.prog 43 #[.pointer (some ⟨gd, 0, none⟩), .string (bstr x), .int .i64 id] w (LoadDid w (loadQ d x id)) := by
 obtain ⟨fit, hfit⟩ : ∃ z : Vd.Fit d, True := by
  obtain ⟨b1, b2, nv, mv, nb, hh⟩ := h
  exact ⟨hh.fit, trivial⟩
 have HTL := Lib.hid (Vd.textD_len fit x)
 have HD := Lib.hid h
 have HQ := Lib.hid (show loadQ d x id = if (textD d x).2 ≠ 0 then ((noJob, false), false, (textD d x).2)
 else if (readR (textD d x).1).2.2 ≠ 0 ∨ (readR (textD d x).1).1.id ≠ id then ((noJob, false), false, 0)
 else (((readR (textD d x).1).1, decide ((readR (textD d x).1).2.1 = ((textD d x).1.length : Int))), true, 0) from rfl)
 clear h hfit fit
 go_enter Tryz.func43, Tryz.ntmps43
 go_upto_region 1 with fail
 have HB := Lib.hid (Blk.new w 118 #[.int .i64 0, .int .i64 0, .string ⟨#[]⟩, .string ⟨#[]⟩, .slice none 0 0, .slice none 0 0, .slice none 0 0, .bool false] rfl)
 have HK := Lib.hid ((Keeps.refl w).alloc (.cells #[.int .i64 0, .int .i64 0, .string ⟨#[]⟩, .string ⟨#[]⟩, .slice none 0 0, .slice none 0 0, .slice none 0 0, .bool false] 118))
 generalize World.alloc w _ = w1 at *
 obtain ⟨r, hr⟩ : ∃ z, w.heap.size = z := ⟨_, rfl⟩
 have HRR := Lib.hid hr
 rw [hr] at HB ⊢
 clear hr
 have HRD := Lib.hid (Vd.read_any w1 (HD.out.keeps HK.out) x (by unfold maxLen; omega))
 unfold Vd.ReadDid at HRD
 generalize textD d x = T at *
 obtain ⟨t, er⟩ := T
 simp only at HQ HRD HTL
 go_wp2_with fail
 refine HRD.out.mono ?_
 rintro e w2 ⟨bv, rfl, hrow, hk2⟩
 have HROW := Lib.hid hrow
 have HK2 := Lib.hid (HK.out.trans hk2)
 have HB2 := Lib.hid (HB.out.keeps hk2)
 obtain ⟨pb, cb, rfl, -, -⟩ := hrow.formB
 clear hrow hk2 HRD HB HK
 by_cases he : er = 0
 ·subst he
  have HQ2 := Lib.hid (show loadQ d x id = if (readR t).2.2 ≠ 0 ∨ (readR t).1.id ≠ id then ((noJob, false), false, 0)
   else (((readR t).1, decide ((readR t).2.1 = (t.length : Int))), true, 0) from by rw [HQ.out, if_neg (by simp)])
  have HRE := Lib.hid (read_own _ t w2 HROW.out (by have := HTL.out; omega))
  unfold ReadOwn at HRE
  generalize readR t = R at *
  obtain ⟨j, used, er2⟩ := R
  simp only at HQ2 HRE
  go_wp2_with fail
  refine HRE.out.mono ?_
  rintro e w3 ⟨vt, vs, vb, rfl, ho, hk3⟩
  obtain ⟨pt, ct, rfl, -, -⟩ := ownsRow_form ho.1
  obtain ⟨ps, cs, rfl, -, -⟩ := ownsRow_form ho.2.1
  obtain ⟨pv, cv, rfl, -, -⟩ := ho.2.2.form
  rw [List.length_map] at ho ⊢
  have HO := Lib.hid ho
  have HK3 := Lib.hid (HK2.out.trans hk3)
  have HB3 := Lib.hid (HB2.out.keeps hk3)
  have HJB := Lib.hid (Blk.new w3 55 #[.int .i64 0, .int .i64 0, .string ⟨#[]⟩, .string ⟨#[]⟩, .slice none 0 0, .slice none 0 0, .slice none 0 0] rfl)
  have HK4 := Lib.hid ((Keeps.refl w3).alloc (.cells #[.int .i64 0, .int .i64 0, .string ⟨#[]⟩, .string ⟨#[]⟩, .slice none 0 0, .slice none 0 0, .slice none 0 0] 55))
  have HW2 := Lib.hid HK2.out.size
  clear ho hk3 HRE HB2 HK2
  go_upto_region 5 with (refine wpList_st (ds := jobA j (.slice pt j.tos.length ct) (.slice ps j.st.length cs) (.slice pv j.body.length cv)) rfl jobM HJB.out rfl (by simp [Value.oneCell']) _ _ rfl rfl rfl rfl ?_; intro w5 hB5 hM5; have HJ5 := Lib.hid hB5; have HM5 := Lib.hid hM5; clear hB5 hM5)
  have HK5 := Lib.hid (show Keeps w3 w5 from HM5.out.keeps HK4.out (fun y hy => by rw [hy]; exact Nat.le_refl _))
  obtain ⟨jb, hjb⟩ : ∃ z, w3.heap.size = z := ⟨_, rfl⟩
  have HNR := Lib.hid (show jb ≠ r from by have := HB3.out.lt; omega)
  rw [hjb] at HJ5 ⊢
  have HO5 := Lib.hid (JobOwn.keeps HO.out HK5.out)
  have HB5 := Lib.hid (HB3.out.keeps HK5.out)
  have HKW := Lib.hid (HK3.out.trans HK5.out)
  have j0 : w5.cell? ⟨jb, 0, none⟩ = some (.int .i64 j.id) := by rw [HJ5.out.cell]; rfl
  clear hjb HJB HK4 HM5 HK5 HO HB3 HK3
  by_cases he : er2 = 0
  ·subst he
   by_cases hi : j.id = id
   ·have e1 : (j.id != id) = false := by simp [hi]
    have HR := Lib.hid (show loadQ d x id = ((j, decide (used = (t.length : Int))), true, 0) from by rw [HQ2.out, if_neg (by simp [hi])])
    have HWH := Lib.hid (show (used == (t.length : Int)) = decide (used = (t.length : Int)) from by by_cases h : used = (t.length : Int) <;> simp [h])
    clear hi
    go_wp2_with (first | refine wpList_ld rfl jobM HJ5.out _ rfl rfl ?_ | (refine wpList_st (ds := kpA' j ⟨pt, j.tos.length, ct⟩ ⟨ps, j.st.length, cs⟩ ⟨pv, j.body.length, cv⟩ (used == (t.length : Int))) rfl kpM HB5.out rfl (by simp [Value.oneCell', kpA', SlQ.v]) _ _ rfl rfl rfl rfl ?_; intro yF hBF hMF; have HF := Lib.hid (And.intro hBF hMF); clear hBF hMF))
    have HG := Lib.hid (show LoadDid w ((j, decide (used = (t.length : Int))), true, 0) (.returned (.tuple #[kpV ⟨j.id, j.arr, j.fl, j.fd, ⟨pt, j.tos.length, ct⟩, ⟨ps, j.st.length, cs⟩, ⟨pv, j.body.length, cv⟩, decide (used = (t.length : Int))⟩, .bool true, .int .i64 0])) yF from by
     have hk := HF.out.2.keeps HKW.out (fun y hy => by rw [hy, ← HRR.out]; exact Nat.le_refl _)
     have ho : JobOwn yF w2.heap.size j (.slice pt j.tos.length ct) (.slice ps j.st.length cs) (.slice pv j.body.length cv) := by
      refine ⟨ownsRow_mods HO5.out.1 HF.out.2 (fun y hy e => Frm.ownsRow_ne HO5.out.1 HB5.out (by decide) (by rw [hy, e])), ownsRow_mods HO5.out.2.1 HF.out.2 (fun y hy e => Frm.ownsRow_ne HO5.out.2.1 HB5.out (by decide) (by rw [hy, e])), HO5.out.2.2.modsT HF.out.2 (fun y hy => by subst hy; exact Env.blk_ty HB5.out (by decide))⟩
     exact ⟨⟨j, ⟨j.id, j.arr, j.fl, j.fd, ⟨pt, j.tos.length, ct⟩, ⟨ps, j.st.length, cs⟩, ⟨pv, j.body.length, cv⟩, decide (used = (t.length : Int))⟩⟩, rfl, rfl, ⟨rfl, rfl, rfl, rfl, JobOwn.stay ho (fun y h1 h2 => ⟨Nat.le_trans HW2.out h1, h2⟩)⟩, hk⟩)
    have HC := Lib.hid (show yF.cell? ⟨r, 0, none⟩ = some (.int .i64 j.id) ∧ yF.cell? ⟨r, 1, none⟩ = some (.int .i64 j.arr) ∧ yF.cell? ⟨r, 2, none⟩ = some (.string (bstr j.fl)) ∧ yF.cell? ⟨r, 3, none⟩ = some (.string (bstr j.fd)) ∧ yF.cell? ⟨r, 4, none⟩ = some (.slice pt j.tos.length ct) ∧ yF.cell? ⟨r, 5, none⟩ = some (.slice ps j.st.length cs) ∧ yF.cell? ⟨r, 6, none⟩ = some (.slice pv j.body.length cv) ∧ yF.cell? ⟨r, 7, none⟩ = some (.bool (used == (t.length : Int))) from by
     refine ⟨?_, ?_, ?_, ?_, ?_, ?_, ?_, ?_⟩ <;> (rw [HF.out.1.cell]; rfl))
    exact bodyPost_ret (v := .tuple #[kpV ⟨j.id, j.arr, j.fl, j.fd, ⟨pt, j.tos.length, ct⟩, ⟨ps, j.st.length, cs⟩, ⟨pv, j.body.length, cv⟩, decide (used = (t.length : Int))⟩, .bool true, .int .i64 0]) (by simp [results, Tryz.results43, go_sem, HC.out.1, HC.out.2.1, HC.out.2.2.1, HC.out.2.2.2.1, HC.out.2.2.2.2.1, HC.out.2.2.2.2.2.1, HC.out.2.2.2.2.2.2.1, HC.out.2.2.2.2.2.2.2, kpV, kpA, SlQ.v, HWH.out]) rfl (by rw [HR.out]; exact HG.out)
   ·have e1 : (j.id != id) = true := by simp [hi]
    have HR := Lib.hid (show loadQ d x id = ((noJob, false), false, 0) from by rw [HQ2.out, if_pos (.inr hi)])
    clear hi
    go_wp2_with (refine wpList_st (ds := #[.int .i64 0, .int .i64 0, .string ⟨#[]⟩, .string ⟨#[]⟩, .slice none 0 0, .slice none 0 0, .slice none 0 0, .bool false]) rfl kpM HB5.out rfl (by simp [Value.oneCell']) _ _ rfl rfl rfl rfl ?_; intro yF hBF hMF; have HF := Lib.hid (And.intro hBF hMF); clear hBF hMF)
    exact bodyPost_ret (v := .tuple #[kpV zeroK, .bool false, .int .i64 0]) (by simp [results, Tryz.results43, go_sem, ld_zero HF.out.1, kpV, kpA, zeroK, SlQ.v, bstr]) rfl (by rw [HR.out]; exact load_no (HF.out.2.keeps HKW.out (fun y hy => by rw [hy, ← HRR.out]; exact Nat.le_refl _)))
  ·have e1 : (er2 != 0) = true := by simp [he]
   have HR := Lib.hid (show loadQ d x id = ((noJob, false), false, 0) from by rw [HQ2.out, if_pos (.inl he)])
   clear he
   go_wp2_with (refine wpList_st (ds := #[.int .i64 0, .int .i64 0, .string ⟨#[]⟩, .string ⟨#[]⟩, .slice none 0 0, .slice none 0 0, .slice none 0 0, .bool false]) rfl kpM HB5.out rfl (by simp [Value.oneCell']) _ _ rfl rfl rfl rfl ?_; intro yF hBF hMF; have HF := Lib.hid (And.intro hBF hMF); clear hBF hMF)
   exact bodyPost_ret (v := .tuple #[kpV zeroK, .bool false, .int .i64 0]) (by simp [results, Tryz.results43, go_sem, ld_zero HF.out.1, kpV, kpA, zeroK, SlQ.v, bstr]) rfl (by rw [HR.out]; exact load_no (HF.out.2.keeps HKW.out (fun y hy => by rw [hy, ← HRR.out]; exact Nat.le_refl _)))
 ·have e1 : (er != 0) = true := by simp [he]
  have HR := Lib.hid (show loadQ d x id = ((noJob, false), false, er) from by rw [HQ.out, if_pos he])
  clear he
  go_wp2_with (refine wpList_st (ds := #[.int .i64 0, .int .i64 0, .string ⟨#[]⟩, .string ⟨#[]⟩, .slice none 0 0, .slice none 0 0, .slice none 0 0, .bool false]) rfl kpM HB2.out rfl (by simp [Value.oneCell']) _ _ rfl rfl rfl rfl ?_; intro yF hBF hMF; have HF := Lib.hid (And.intro hBF hMF); clear hBF hMF)
  exact bodyPost_ret (v := .tuple #[kpV zeroK, .bool false, .int .i64 er]) (by simp [results, Tryz.results43, go_sem, ld_zero HF.out.1, kpV, kpA, zeroK, SlQ.v, bstr]) rfl (by rw [HR.out]; exact load_no (HF.out.2.keeps HK2.out (fun y hy => by rw [hy, ← HRR.out]; exact Nat.le_refl _)))
end Que
end Go.Proofs.YtcleakjjefmmbaaGreat

/- queue: Get, Len, Next. -/
namespace Go.Proofs.YtcleakjjefmmbaaGreat
open Go.RowKit
namespace Que
open Mp Go.Maps
open Env (JobP StP TgP JobAt JobOwn tgC stC jobA jobM noJob)
open Bds (SlQ)
open Frm (ownsRow_mods ownsRow_keeps ownsRow_base ownsRow_form)
section
variable {A S0 : Nat → Prop} {w0 w : World} {gd g n k : Nat} {d : Vd.Dsk} {q : QuP}
theorem next_any (h : QAt A S0 w0 w gd d k g n q) : Calls Tryz.prog 18 #[.pointer (some ⟨g, 0, none⟩)] w fun e w' => e = .returned (.int .i64 q.next) ∧ w = w' := by
 obtain ⟨S, J, b, jv, h⟩ := h
 have c1 := h.qu.cells.2.1
 clear h
 go_enter Tryz.func18, Tryz.ntmps18
 go_wp2_with fail
 go_ret
 exact ⟨rfl, rfl⟩
theorem len_any (h : QAt A S0 w0 w gd d k g n q) : Calls Tryz.prog 30 #[.pointer (some ⟨g, 0, none⟩)] w fun e w' => e = .returned (.int .i64 (q.jobs.length : Int)) ∧ w = w' := by
 obtain ⟨S, J, b, jv, h⟩ := h
 have c2 := h.qu.cells.2.2.1
 have hl := fun ty => h.qu.map.len ty
 have HL := Lib.hid (show jv.length = q.jobs.length from by rw [← h.qu.jobs]; simp [pL])
 clear h
 go_enter Tryz.func30, Tryz.ntmps30
 go_wp2_with fail
 go_ret
 rw [← HL.out]
 exact ⟨rfl, rfl⟩
def GetDid (W : World) (o : Option (JobP × Bool)) (e : Ending) (w' : World) : Prop := ∃ vt vs vb, e = .returned (.tuple #[.agg (jobA ((o.map (·.1)).getD noJob) vt vs vb), .bool o.isSome]) ∧ JobOwn w' W.heap.size ((o.map (·.1)).getD noJob) vt vs vb ∧ Keeps W w'
set_option maxRecDepth 100000 in
set_option maxHeartbeats 4000000 in
theorem get_any (h : QAt A S0 w0 w gd d k g n q) (hg : ∀ p ∈ q.jobs, Env.goodJ p.2.1 = true) {x : Int} (hx : (Lit.int .i64 x).wf = true) : Calls Tryz.prog 29 #[.pointer (some ⟨g, 0, none⟩), .int .i64 x] w (GetDid w (Mp.look q.jobs x)) := by
 obtain ⟨S, J, b, jv, h⟩ := h
 have c2 := h.qu.cells.2.2.1
 have hlk := h.qu.map.look hx
 obtain ⟨e, he⟩ : ∃ z, (Mp.look jv x).getD kx0 = z := ⟨_, rfl⟩
 have HE := Lib.hid (show KpIs w J e ∧ (e = kx0 ∨ Env.goodJ e.j = true) from by
  cases hl : Mp.look jv x with
  |none =>
   rw [hl] at he
   rw [← he]
   exact ⟨kx0_is _ _, .inl rfl⟩
  |some y =>
   rw [hl] at he
   have hm := lookup_mem hl
   rw [← he]
   refine ⟨h.qu.is_ _ hm, .inr ?_⟩
   have := hg (x, y.p) (by rw [← h.qu.jobs]; exact List.mem_map.2 ⟨_, hm, rfl⟩)
   exact this)
 have HOX := Lib.hid (show (Mp.look q.jobs x).isSome = (Mp.look jv x).isSome ∧ ((Mp.look q.jobs x).map (·.1)).getD noJob = e.j from by
  rw [look_job h.qu.jobs, ← he]
  cases Mp.look jv x <;> exact ⟨rfl, rfl⟩)
 have hv : ((Mp.look jv x).map (·.v)).getD zeroK = e.v := by
  rw [← he]
  cases Mp.look jv x <;> rfl
 rw [hv, HE.out.1.cells] at hlk
 unfold kpA' SlQ.v at hlk
 have HLK := Lib.hid (fun (w' : World) (hk : Keeps w w') => (h.qu.map.keeps hk).look hx)
 rw [hv, HE.out.1.cells] at HLK
 unfold kpA' SlQ.v at HLK
 generalize (Mp.look jv x).isSome = bo at *
 have HR0 := Lib.hid (Blk.new w 55 #[.int .i64 0, .int .i64 0, .string ⟨#[]⟩, .string ⟨#[]⟩, .slice none 0 0, .slice none 0 0, .slice none 0 0] rfl)
 clear he hv hg hlk h
 go_enter Tryz.func29, Tryz.ntmps29
 go_upto_region 1 with fail
 have HK1 := Lib.hid ((Keeps.refl w).alloc (.cells #[.int .i64 0, .int .i64 0, .string ⟨#[]⟩, .string ⟨#[]⟩, .slice none 0 0, .slice none 0 0, .slice none 0 0] 55))
 generalize World.alloc w _ = w1 at *
 obtain ⟨r, hr⟩ : ∃ z, w.heap.size = z := ⟨_, rfl⟩
 have HRR := Lib.hid hr
 rw [hr] at HR0 ⊢
 clear hr
 have c2 := keep1 HK1.out c2
 have hlk := HLK.out w1 HK1.out
 have HKB := Lib.hid (Blk.new w1 118 #[.int .i64 0, .int .i64 0, .string ⟨#[]⟩, .string ⟨#[]⟩, .slice none 0 0, .slice none 0 0, .slice none 0 0, .bool false] rfl)
 have HK4 := Lib.hid ((Keeps.refl w1).alloc (.cells #[.int .i64 0, .int .i64 0, .string ⟨#[]⟩, .string ⟨#[]⟩, .slice none 0 0, .slice none 0 0, .slice none 0 0, .bool false] 118))
 go_upto_region 2 with (refine wpList_st (ds := #[.int .i64 e.j.id, .int .i64 e.j.arr, .string (bstr e.j.fl), .string (bstr e.j.fd), .slice e.v.s1.p e.v.s1.n e.v.s1.c, .slice e.v.s2.p e.v.s2.n e.v.s2.c, .slice e.v.s3.p e.v.s3.n e.v.s3.c, .bool e.v.wh]) rfl kpM HKB.out rfl (by simp [Value.oneCell']) _ _ rfl rfl rfl rfl ?_; intro y5 hB5 hM5; have HB5 := Lib.hid hB5; have HM5 := Lib.hid hM5; clear hB5 hM5)
 have HK5 := Lib.hid (HM5.out.keeps HK4.out (fun y hy => by rw [hy]; exact Nat.le_refl _))
 have HKW := Lib.hid (HK1.out.trans HK5.out)
 have HR5 := Lib.hid (HR0.out.keeps HK5.out)
 obtain ⟨qb, hqb⟩ : ∃ z, w1.heap.size = z := ⟨_, rfl⟩
 rw [hqb] at HB5 ⊢
 have HRG := Lib.hid (show y5.rangeAt qb 0 [.int .i64 e.j.id, .int .i64 e.j.arr, .string (bstr e.j.fl), .string (bstr e.j.fd), .slice e.v.s1.p e.v.s1.n e.v.s1.c, .slice e.v.s2.p e.v.s2.n e.v.s2.c, .slice e.v.s3.p e.v.s3.n e.v.s3.c] from fun i x hx => by
  rw [Nat.zero_add, HB5.out.cell]
  have hi := (List.getElem?_eq_some_iff.1 hx).1
  simp at hi
  have : i = 0 ∨ i = 1 ∨ i = 2 ∨ i = 3 ∨ i = 4 ∨ i = 5 ∨ i = 6 := by omega
  rcases this with rfl | rfl | rfl | rfl | rfl | rfl | rfl <;> exact hx)
 have HJ5 := Lib.hid (HE.out.1.mods (S := fun _ => False) (Mods.of_keeps HKW.out) (fun _ h => h.elim)).job.at_
 have hln : e.j.tos.length ≤ 1000000 ∧ e.j.st.length ≤ 1000000 ∧ e.j.body.length ≤ 1000000 := by
  rcases HE.out.2 with h | h
  ·rw [h]; decide
  ·have h1 := h
   unfold Env.goodJ at h1
   simp only [Bool.and_eq_true, decide_eq_true_eq] at h1
   have h2 := Env.envB_len h1.1.1.1
   have h3 := h1.1.1.2
   have h4 := h1.1.2
   omega
 have HCL := Lib.hid (clone_any y5 e.j _ _ _ HJ5.out hln.1 hln.2.1 hln.2.2)
 unfold SlQ.v at HCL
 clear hln HKB HK4 HM5 HLK hlk c2 hqb
 go_wp2_with (first | refine wpList_ldR rfl jobM HRG.out _ rfl rfl ?_ | (refine HCL.out.mono ?_; rintro e6 y6 ⟨ut, us, ub, rfl, ho6, hk6⟩; obtain ⟨qt, et, rfl, -, -⟩ := ownsRow_form ho6.1; obtain ⟨qs, es, rfl, -, -⟩ := ownsRow_form ho6.2.1; obtain ⟨qv, ev, rfl, -, -⟩ := ho6.2.2.form; rw [List.length_map] at ho6 ⊢; have HO6 := Lib.hid ho6; have HK6 := Lib.hid hk6; clear ho6 hk6) | (refine wpList_st (ds := jobA e.j (.slice qt e.j.tos.length et) (.slice qs e.j.st.length es) (.slice qv e.j.body.length ev)) rfl jobM (HR5.out.keeps HK6.out) rfl (by simp [Value.oneCell']) _ _ rfl rfl rfl rfl ?_; intro yF hBF hMF; have HBF := Lib.hid hBF; have HMF := Lib.hid hMF; clear hBF hMF))
 have HO := Lib.hid (show JobOwn yF w.heap.size e.j (.slice qt e.j.tos.length et) (.slice qs e.j.st.length es) (.slice qv e.j.body.length ev) from by
  have h := HO6.out
  have hb := HR5.out.keeps HK6.out
  have hz := HKW.out.size
  exact ⟨Env.ownsRow_lower3 (ownsRow_mods h.1 HMF.out (fun y hy e => Frm.ownsRow_ne h.1 hb (by decide) (by rw [hy, e]))) hz, Env.ownsRow_lower3 (ownsRow_mods h.2.1 HMF.out (fun y hy e => Frm.ownsRow_ne h.2.1 hb (by decide) (by rw [hy, e]))) hz, (h.2.2.modsT HMF.out (fun y hy => by subst hy; exact Env.blk_ty hb (by decide))).lower hz⟩)
 have HKF := Lib.hid (HMF.out.keeps (HKW.out.trans HK6.out) (fun y hy => by rw [hy, ← HRR.out]; exact Nat.le_refl _))
 have HC := Lib.hid (show yF.cell? ⟨r, 0, none⟩ = some (.int .i64 e.j.id) ∧ yF.cell? ⟨r, 1, none⟩ = some (.int .i64 e.j.arr) ∧ yF.cell? ⟨r, 2, none⟩ = some (.string (bstr e.j.fl)) ∧ yF.cell? ⟨r, 3, none⟩ = some (.string (bstr e.j.fd)) ∧ yF.cell? ⟨r, 4, none⟩ = some (.slice qt e.j.tos.length et) ∧ yF.cell? ⟨r, 5, none⟩ = some (.slice qs e.j.st.length es) ∧ yF.cell? ⟨r, 6, none⟩ = some (.slice qv e.j.body.length ev) from by
  refine ⟨?_, ?_, ?_, ?_, ?_, ?_, ?_⟩ <;> (rw [HBF.out.cell]; rfl))
 exact bodyPost_ret (v := .tuple #[.agg (jobA e.j (.slice qt e.j.tos.length et) (.slice qs e.j.st.length es) (.slice qv e.j.body.length ev)), .bool bo]) (by simp [results, Tryz.results29, go_sem, HC.out.1, HC.out.2.1, HC.out.2.2.1, HC.out.2.2.2.1, HC.out.2.2.2.2.1, HC.out.2.2.2.2.2.1, HC.out.2.2.2.2.2.2]) rfl ⟨_, _, _, by rw [HOX.out.1, HOX.out.2], by rw [HOX.out.2]; exact HO.out, HKF.out⟩
end
end Que
end Go.Proofs.YtcleakjjefmmbaaGreat
