/- Several texts in one: UsDo, UsMade. -/
import Derived.Test.YtklbemkafdccgaaGreatUsLActs
import Derived.Test.YtklbemkafdccgaaGreatK17
import Derived.Test.YtklbemkafdccgaaGreatUsRefAl
import Derived.Test.YtklbemkafdccgaaGreatK47
import Derived.Test.YtklbemkafdccgaaGreatUsRefDrop
import Derived.Test.YtklbemkafdccgaaGreatK44
import Derived.Test.YtklbemkafdccgaaGreatUsNew
/- users' law: do, an act in both tables. (Printed by gen_usdo.py.) -/
namespace Go.Proofs.YtklbemkafdccgaaGreat
open Go.RowKit
namespace Usr
open Adr (Str)
open Mp Go.Maps
open Frm (ownsRow_keeps ownsRow_mods ownsRow_ne ownsRow_form ownsRow_base)
theorem rowS_row {w : World} {v : Value} {l : List Value} (h : Row w v l) : RowS w 1 v l.length l := by
 refine ⟨by simp, ?_⟩
 rcases h with ⟨a0, cap, rfl, rfl, h1, h2⟩ | ⟨b, off, cap, rfl, h1, h2, h3⟩
 ·exact .inl ⟨a0, cap, rfl, rfl, h1, h2⟩
 ·exact .inr ⟨b, off, cap, rfl, h1, h2, h3⟩
theorem setL_n (t : TabP) (name : Str) (b c : Int) : (setL t name b c).2.1 = 0 := by
 unfold setL
 repeat' split
 all_goals rfl
theorem addA_n (t : TabP) (name : Str) (tos : List Str) : (addA t name tos).2.1 = 0 := by
 unfold addA
 repeat' split
 all_goals rfl
theorem dropA_n (t : TabP) (name : Str) : (dropA t name).2.1 = 0 := by unfold dropA; split <;> rfl
theorem TabAt.rows {w : World} {g b1 b2 n : Nat} {t : TabP} (h : TabAt w g b1 b2 n t) : ∀ x, TFr g b1 b2 x → ∀ cs e fr, (e = 42 ∨ e = 108 ∨ e = 9) → w.heap[x]? ≠ some (.cells cs e fr) :=
 fun x hx cs e fr he => h.objs x hx cs e fr (by rcases he with rfl | rfl | rfl <;> decide)
theorem TabAt.blkO {w w' : World} {g b1 b2 n q : Nat} {t : TabP} {ty : TypeId} {cs : Array Value} (h : TabAt w g b1 b2 n t) (k : Mods (· = q) w w') (hb : Blk w q ty cs) (hn : ty ≠ 9) (hg : q ≠ g ∧ q ≠ b1 ∧ q ≠ b2) : TabAt w' g b1 b2 n t :=
 h.mods k (fun e => hg.1 e.symm) (fun e => hg.2.1 e.symm) (fun e => hg.2.2 e.symm) (fun x hx cs' fr hh => by
  subst hx
  rw [show w.heap[x]? = _ from hb] at hh
  simp only [Option.some.injEq, Obj.cells.injEq] at hh
  exact hn hh.2.1)
def DoDid (W : World) (g b1 b2 n : Nat) (T M : TabP) (kd : Int) (nm : Str) (lb lc : Int) (tos : List Str) (e : Ending) (w' : World) : Prop :=
 ∃ uv av L bl, e = .returned (.tuple #[rtV uv av (doP M kd nm lb lc tos).1, .bool bl]) ∧ RT w' uv av (doP M kd nm lb lc tos).1 L ∧ TabAt w' g b1 b2 (n + 1) (doP T kd nm lb lc tos).1 ∧ Mods (TFr g b1 b2) W w' ∧ (T = M → bl = true)
/-- both acts are done -/
structure DoMid (W : World) (g b1 b2 n q : Nat) (rT rM : TabP × Int × Int) (pu' : Option Addr) (cu' : Nat) (pa' : Option Addr) (ca' : Nat) (L' : List (AlP × Value)) (wx : World) : Prop where
 rt : RT wx (.slice pu' rM.1.us.length cu') (.slice pa' L'.length ca') rM.1 L'
 tab : TabAt wx g b1 b2 (n + 1) rT.1
 md : Mods (TFr g b1 b2) W wx
 got : Blk wx (q + 1 + 1 + 1) 86 #[.string (bstr rM.1.dom), .int .i64 rM.1.next, .slice pu' rM.1.us.length cu', .slice pa' L'.length ca', .int .i64 rM.2.1, .int .i64 rM.2.2]
 res : Blk wx (q + 1 + 1) 32 #[.string ⟨#[]⟩, .int .i64 0, .slice none 0 0, .slice none 0 0]
set_option maxRecDepth 100000 in
set_option maxHeartbeats 8000000 in
theorem do_any (W : World) (g b1 b2 n : Nat) (T M : TabP) (hT : TabAt W g b1 b2 n T) (hRT : Right T) (hn : n < 900000) (uv av : Value) (L : List (AlP × Value)) (hM : RT W uv av M L) (hRM : Right M) (kd : Int) (nm : Str) (lb lc : Int) (tv : Value) (tos : List Str) (hr : Row W tv (tos.map strV)) (hnl : nm.length ≤ 100) (htl : tos.length ≤ 20) (hsl : ∀ s ∈ tos, s.length ≤ 100) :
  Calls Tryz.prog 12 #[.pointer (some ⟨g, 0, none⟩), rtV uv av M, .agg #[.int .i64 kd, .string (bstr nm), .int .i64 lb, .int .i64 lc, tv]] W (DoDid W g b1 b2 n T M kd nm lb lc tos) := by
 unfold DoDid
 obtain ⟨pu, cu, pa, ca, rfl, rfl, -, -⟩ := hM.forms
 obtain ⟨pt, ct, rfl, -, -⟩ := hr.form
 rw [List.length_map] at hr ⊢
 have HT := Lib.hid hT
 have HLT := Lib.hid hT.lt
 have HRT := Lib.hid hRT
 have HRM := Lib.hid hRM
 have HM := Lib.hid hM
 have HR := Lib.hid hr
 have HTL := Lib.hid htl
 have HNL := Lib.hid hnl
 have HSL := Lib.hid hsl
 have HN := Lib.hid hn
 clear hT hRT hRM hM hr htl hnl hsl hn
 unfold rtV
 have HD0 := Lib.hid (show ∀ t, kd = 0 → doP t kd nm lb lc tos = addU t nm lb lc from fun t h => by unfold doP; rw [if_pos h])
 have HD1 := Lib.hid (show ∀ t, kd = 1 → doP t kd nm lb lc tos = setL t nm lb lc from fun t h => by subst h; rfl)
 have HD2 := Lib.hid (show ∀ t, kd = 2 → doP t kd nm lb lc tos = dropU t nm from fun t h => by subst h; rfl)
 have HD3 := Lib.hid (show ∀ t, kd = 3 → doP t kd nm lb lc tos = addA t nm tos from fun t h => by subst h; rfl)
 have HD4 := Lib.hid (show ∀ t, kd = 4 → doP t kd nm lb lc tos = dropA t nm from fun t h => by subst h; rfl)
 have HD5 := Lib.hid (show ∀ t, kd ≠ 0 → kd ≠ 1 → kd ≠ 2 → kd ≠ 3 → kd ≠ 4 → doP t kd nm lb lc tos = (t, 0, 0) from fun t h0 h1 h2 h3 h4 => by unfold doP; rw [if_neg h0, if_neg h1, if_neg h2, if_neg h3, if_neg h4])
 obtain ⟨rT, hrT⟩ : ∃ r, doP T kd nm lb lc tos = r := ⟨_, rfl⟩
 obtain ⟨rM, hrM⟩ : ∃ r, doP M kd nm lb lc tos = r := ⟨_, rfl⟩
 have HET := Lib.hid hrT
 have HEM := Lib.hid hrM
 have HEQ := Lib.hid (show T = M → rT = rM from fun e => by rw [← hrT, ← hrM, e])
 rw [hrT, hrM]
 clear hrT hrM
 go_enter Tryz.func12, Tryz.ntmps12
 go_upto_region 4 with fail
 generalize hW : World.alloc (World.alloc (World.alloc (World.alloc W _) _) _) _ = w1
 have HK := Lib.hid (show Keeps W w1 from by rw [← hW]; exact ((((Keeps.refl _).alloc _).alloc _).alloc _).alloc _)
 have HB := Lib.hid (show Blk w1 W.heap.size 32 #[.string (bstr M.dom), .int .i64 M.next, .slice pu M.us.length cu, .slice pa L.length ca] from by rw [← hW]; exact (Blk.new _ _ _ rfl).keeps ((((Keeps.refl _).alloc _).alloc _).alloc _))
 have HA := Lib.hid (show Blk w1 (W.heap.size + 1) 39 #[.int .i64 kd, .string (bstr nm), .int .i64 lb, .int .i64 lc, .slice pt tos.length ct] from by rw [← hW]; exact (Blk.new _ _ _ (Frm.alloc_size _ _).symm).keeps (((Keeps.refl _).alloc _).alloc _))
 have HZ := Lib.hid (show Blk w1 (W.heap.size + 1 + 1) 32 #[.string ⟨#[]⟩, .int .i64 0, .slice none 0 0, .slice none 0 0] from by rw [← hW]; exact (Blk.new _ _ _ (by rw [Frm.alloc_size, Frm.alloc_size])).keeps ((Keeps.refl _).alloc _))
 have HG := Lib.hid (show Blk w1 (W.heap.size + 1 + 1 + 1) 86 #[.string ⟨#[]⟩, .int .i64 0, .slice none 0 0, .slice none 0 0, .int .i64 0, .int .i64 0] from by rw [← hW]; exact Blk.new _ _ _ (by rw [Frm.alloc_size, Frm.alloc_size, Frm.alloc_size]))
 clear hW
 obtain ⟨q, hq⟩ : ∃ z, W.heap.size = z := ⟨_, rfl⟩
 have HQ := Lib.hid (show W.heap.size = q ∧ g < q ∧ b1 < q ∧ b2 < q from by have := HLT.out; omega)
 rw [hq] at HB HA HZ HG ⊢
 clear hq
 have a0 : w1.cell? ⟨q + 1, 0, none⟩ = some (.int .i64 kd) := by rw [HA.out.cell]; rfl
 have a1 : w1.cell? ⟨q + 1, 1, none⟩ = some (.string (bstr nm)) := by rw [HA.out.cell]; rfl
 have a4 : w1.cell? ⟨q + 1, 4, none⟩ = some (.slice pt tos.length ct) := by rw [HA.out.cell]; rfl
 have HLR := Lib.hid (show ∀ wx, Blk wx (q + 1) 39 #[.int .i64 kd, .string (bstr nm), .int .i64 lb, .int .i64 lc, .slice pt tos.length ct] → wx.rangeAt (q + 1) 2 [.int .i64 lb, .int .i64 lc] from fun wx hb j v hv => by
  have hj : j < 2 := by have := (List.getElem?_eq_some_iff.1 hv).1; simpa using this
  rw [hb.cell]
  rcases (show j = 0 ∨ j = 1 by omega) with rfl | rfl
  ·simp at hv; subst hv; rfl
  ·simp at hv; subst hv; rfl)
 have HTw := Lib.hid (HT.out.keeps HK.out)
 have HMw := Lib.hid (HM.out.keeps HK.out)
 have HRw := Lib.hid (HR.out.keeps HK.out)
 go_upto_block 0 with fail
 clear a0
 have HIDE := Lib.hid (And.intro a1 a4)
 clear a1 a4
 go_cut [9, 10] (fun nv ev wx => ∃ (n' e' : Int), nv = .int .i64 n' ∧ ev = .int .i64 e' ∧ Hid (∃ pu' cu' pa' ca' L', DoMid W g b1 b2 n q rT rM pu' cu' pa' ca' L' wx) ∧ Hid (T = M → n' = rM.2.1 ∧ e' = rM.2.2))
 case first =>
  by_cases k0 : kd = 0
  ·have HKD := Lib.hid k0
   have t0 : (kd == (0 : Int)) = true := by simp [k0]
   clear k0
   have HX := Lib.hid (show rM = addU M nm lb lc from by rw [← HEM.out]; exact HD0.out M HKD.out)
   have HY := Lib.hid (show rT = addU T nm lb lc from by rw [← HET.out]; exact HD0.out T HKD.out)
   obtain ⟨a1, a4⟩ := HIDE.out
   have CR := Lib.hid (rAddUser_any w1 _ _ M L HMw.out HRM.out nm (by have := HNL.out; omega) lb lc)
   rw [← HX.out] at CR
   unfold rtV at CR
   go_wp2_with (first | refine wpList_ld rfl rtM HB.out _ rfl rfl ?_ | refine wpList_ldR rfl limM (HLR.out _ HA.out) _ rfl rfl ?_)
   refine CR.out.mono ?_
   rintro e w2 ⟨uv', av', L', rfl, hr', hk⟩
   obtain ⟨pu', cu', pa', ca', rfl, rfl, -, -⟩ := hr'.forms
   have HR2 := Lib.hid hr'
   have HA := Lib.hid (HA.out.keeps hk)
   have HZ := Lib.hid (HZ.out.keeps hk)
   have HG := Lib.hid (HG.out.keeps hk)
   have HTw := Lib.hid (HTw.out.keeps hk)
   have HRw := Lib.hid (HRw.out.keeps hk)
   have HK := Lib.hid (HK.out.trans hk)
   clear hr' hk CR HB HIDE a1 a4
   go_upto_region 8 with (refine wpList_st (ds := #[.string (bstr rM.1.dom), .int .i64 rM.1.next, .slice pu' rM.1.us.length cu', .slice pa' L'.length ca', .int .i64 rM.2.1, .int .i64 rM.2.2]) rfl gotM HG.out rfl (by simp [Value.oneCell']) _ _ rfl rfl rfl rfl ?_; intro w3 hB3 hM3; have HG3 := Lib.hid hB3; have HM3 := Lib.hid hM3; clear hB3 hM3)
   have HT3 := Lib.hid (HTw.out.blkO HM3.out HG.out (by decide) (by have := HQ.out; omega))
   have HR3 := Lib.hid (HR2.out.blk HM3.out HG.out (by decide))
   have HA3 := Lib.hid (HA.out.mods HM3.out (fun e => by omega))
   have HZ3 := Lib.hid (HZ.out.mods HM3.out (fun e => by omega))
   have HK3 := Lib.hid (HM3.out.keeps HK.out (fun x hx => by have := HQ.out; omega))
   clear HTw HR2 HA HZ HG HM3 HK
   clear HRw
   have a1 : w3.cell? ⟨q + 1, 1, none⟩ = some (.string (bstr nm)) := by rw [HA3.out.cell]; rfl
   have CU := Lib.hid (addUser_any w3 g b1 b2 n T HT3.out (by have := HRT.out.nx; omega) (by have := HN.out; omega) nm (by have := HNL.out; omega) lb lc)
   rw [← HY.out] at CU
   go_wp2_with (refine wpList_ldR rfl limM (HLR.out _ HA3.out) _ rfl rfl ?_)
   refine CU.out.mono ?_
   rintro e w4 ⟨rfl, hT4, hM4⟩
   have HT4 := Lib.hid hT4
   have HM4 := Lib.hid hM4
   clear hT4 hM4 CU a1
   go_wp2_with fail
   go_meet
   refine ⟨_, _, rfl, rfl, Lib.hid ⟨pu', cu', pa', ca', L', ?_⟩, Lib.hid (fun e => ?_)⟩
   ·exact ⟨HR3.out.mods HM4.out HT3.out.rows, HT4.out, (Mods.of_keeps HK3.out).trans HM4.out (fun x hx _ => hx), HG3.out.mods HM4.out (by have := HQ.out; rintro (h | h | h) <;> omega), HZ3.out.mods HM4.out (by have := HQ.out; rintro (h | h | h) <;> omega)⟩
   ·rw [HEQ.out e]; exact ⟨rfl, rfl⟩
  have HK0N := Lib.hid k0
  have t0 : (kd == (0 : Int)) = false := by simp [k0]
  clear k0
  by_cases k1 : kd = 1
  ·have HKD := Lib.hid k1
   have t1 : (kd == (1 : Int)) = true := by simp [k1]
   clear k1
   have HX := Lib.hid (show rM = setL M nm lb lc from by rw [← HEM.out]; exact HD1.out M HKD.out)
   have HY := Lib.hid (show rT = setL T nm lb lc from by rw [← HET.out]; exact HD1.out T HKD.out)
   obtain ⟨a1, a4⟩ := HIDE.out
   have CR := Lib.hid (rSetLimit_any w1 _ _ M L HMw.out HRM.out nm lb lc)
   rw [← HX.out] at CR
   unfold rtV at CR
   go_wp2_with (first | refine wpList_ld rfl rtM HB.out _ rfl rfl ?_ | refine wpList_ldR rfl limM (HLR.out _ HA.out) _ rfl rfl ?_)
   refine CR.out.mono ?_
   rintro e w2 ⟨uv', av', L', rfl, hr', hk⟩
   obtain ⟨pu', cu', pa', ca', rfl, rfl, -, -⟩ := hr'.forms
   have HR2 := Lib.hid hr'
   have HA := Lib.hid (HA.out.keeps hk)
   have HZ := Lib.hid (HZ.out.keeps hk)
   have HG := Lib.hid (HG.out.keeps hk)
   have HTw := Lib.hid (HTw.out.keeps hk)
   have HRw := Lib.hid (HRw.out.keeps hk)
   have HK := Lib.hid (HK.out.trans hk)
   clear hr' hk CR HB HIDE a1 a4
   go_upto_region 11 with (refine wpList_st (ds := #[.string (bstr rM.1.dom), .int .i64 rM.1.next, .slice pu' rM.1.us.length cu', .slice pa' L'.length ca', .int .i64 rM.2.1, .int .i64 rM.2.2]) rfl gotM HG.out rfl (by simp [Value.oneCell']) _ _ rfl rfl rfl rfl ?_; intro w3 hB3 hM3; have HG3 := Lib.hid hB3; have HM3 := Lib.hid hM3; clear hB3 hM3)
   have HT3 := Lib.hid (HTw.out.blkO HM3.out HG.out (by decide) (by have := HQ.out; omega))
   have HR3 := Lib.hid (HR2.out.blk HM3.out HG.out (by decide))
   have HA3 := Lib.hid (HA.out.mods HM3.out (fun e => by omega))
   have HZ3 := Lib.hid (HZ.out.mods HM3.out (fun e => by omega))
   have HK3 := Lib.hid (HM3.out.keeps HK.out (fun x hx => by have := HQ.out; omega))
   clear HTw HR2 HA HZ HG HM3 HK
   clear HRw
   have a1 : w3.cell? ⟨q + 1, 1, none⟩ = some (.string (bstr nm)) := by rw [HA3.out.cell]; rfl
   have CU := Lib.hid (setLimit_any w3 g b1 b2 n T HT3.out HRT.out.nu (by have := HN.out; omega) nm (by have := HNL.out; omega) lb lc)
   rw [← HY.out] at CU
   go_wp2_with (refine wpList_ldR rfl limM (HLR.out _ HA3.out) _ rfl rfl ?_)
   refine CU.out.mono ?_
   rintro e w4 ⟨rfl, hT4, hM4⟩
   have HT4 := Lib.hid hT4
   have HM4 := Lib.hid hM4
   clear hT4 hM4 CU a1
   go_wp2_with fail
   go_meet
   refine ⟨_, _, rfl, rfl, Lib.hid ⟨pu', cu', pa', ca', L', ?_⟩, Lib.hid (fun e => ?_)⟩
   ·exact ⟨HR3.out.mods HM4.out HT3.out.rows, HT4.out, (Mods.of_keeps HK3.out).trans HM4.out (fun x hx _ => hx), HG3.out.mods HM4.out (by have := HQ.out; rintro (h | h | h) <;> omega), HZ3.out.mods HM4.out (by have := HQ.out; rintro (h | h | h) <;> omega)⟩
   ·rw [HEQ.out e]; exact ⟨by rw [HX.out, setL_n], rfl⟩
  have HK1N := Lib.hid k1
  have t1 : (kd == (1 : Int)) = false := by simp [k1]
  clear k1
  by_cases k2 : kd = 2
  ·have HKD := Lib.hid k2
   have t2 : (kd == (2 : Int)) = true := by simp [k2]
   clear k2
   have HX := Lib.hid (show rM = dropU M nm from by rw [← HEM.out]; exact HD2.out M HKD.out)
   have HY := Lib.hid (show rT = dropU T nm from by rw [← HET.out]; exact HD2.out T HKD.out)
   obtain ⟨a1, a4⟩ := HIDE.out
   have CR := Lib.hid (rDropUser_any w1 _ _ M L HMw.out HRM.out nm)
   rw [← HX.out] at CR
   unfold rtV at CR
   go_wp2_with (first | refine wpList_ld rfl rtM HB.out _ rfl rfl ?_)
   refine CR.out.mono ?_
   rintro e w2 ⟨uv', av', L', rfl, hr', hk⟩
   obtain ⟨pu', cu', pa', ca', rfl, rfl, -, -⟩ := hr'.forms
   have HR2 := Lib.hid hr'
   have HA := Lib.hid (HA.out.keeps hk)
   have HZ := Lib.hid (HZ.out.keeps hk)
   have HG := Lib.hid (HG.out.keeps hk)
   have HTw := Lib.hid (HTw.out.keeps hk)
   have HRw := Lib.hid (HRw.out.keeps hk)
   have HK := Lib.hid (HK.out.trans hk)
   clear hr' hk CR HB HIDE a1 a4
   go_upto_region 14 with (refine wpList_st (ds := #[.string (bstr rM.1.dom), .int .i64 rM.1.next, .slice pu' rM.1.us.length cu', .slice pa' L'.length ca', .int .i64 rM.2.1, .int .i64 rM.2.2]) rfl gotM HG.out rfl (by simp [Value.oneCell']) _ _ rfl rfl rfl rfl ?_; intro w3 hB3 hM3; have HG3 := Lib.hid hB3; have HM3 := Lib.hid hM3; clear hB3 hM3)
   have HT3 := Lib.hid (HTw.out.blkO HM3.out HG.out (by decide) (by have := HQ.out; omega))
   have HR3 := Lib.hid (HR2.out.blk HM3.out HG.out (by decide))
   have HA3 := Lib.hid (HA.out.mods HM3.out (fun e => by omega))
   have HZ3 := Lib.hid (HZ.out.mods HM3.out (fun e => by omega))
   have HK3 := Lib.hid (HM3.out.keeps HK.out (fun x hx => by have := HQ.out; omega))
   clear HTw HR2 HA HZ HG HM3 HK
   clear HRw
   have a1 : w3.cell? ⟨q + 1, 1, none⟩ = some (.string (bstr nm)) := by rw [HA3.out.cell]; rfl
   have CU := Lib.hid (dropUser_any w3 g b1 b2 n T HT3.out nm (by have := HNL.out; omega))
   rw [← HY.out] at CU
   go_wp2_with fail
   refine CU.out.mono ?_
   rintro e w4 ⟨rfl, hT4, hM4⟩
   have HT4 := Lib.hid hT4
   have HM4 := Lib.hid hM4
   clear hT4 hM4 CU a1
   go_wp2_with fail
   go_meet
   refine ⟨_, _, rfl, rfl, Lib.hid ⟨pu', cu', pa', ca', L', ?_⟩, Lib.hid (fun e => ?_)⟩
   ·exact ⟨HR3.out.mods HM4.out HT3.out.rows, HT4.out, (Mods.of_keeps HK3.out).trans HM4.out (fun x hx _ => hx), HG3.out.mods HM4.out (by have := HQ.out; rintro (h | h | h) <;> omega), HZ3.out.mods HM4.out (by have := HQ.out; rintro (h | h | h) <;> omega)⟩
   ·rw [HEQ.out e]; exact ⟨rfl, rfl⟩
  have HK2N := Lib.hid k2
  have t2 : (kd == (2 : Int)) = false := by simp [k2]
  clear k2
  by_cases k3 : kd = 3
  ·have HKD := Lib.hid k3
   have t3 : (kd == (3 : Int)) = true := by simp [k3]
   clear k3
   have HN1 := Lib.hid (show n < 1000000 from by have := HN.out; omega)
   have HNL2 := Lib.hid (show nm.length ≤ 1000000 from by have := HNL.out; omega)
   have HSL2 := Lib.hid (show ∀ s ∈ tos, s.length ≤ 1000000 from fun s hs => by have := HSL.out s hs; omega)
   have HTL2 := Lib.hid (show tos.length ≤ 100000 from by have := HTL.out; omega)
   have HX := Lib.hid (show rM = addA M nm tos from by rw [← HEM.out]; exact HD3.out M HKD.out)
   have HY := Lib.hid (show rT = addA T nm tos from by rw [← HET.out]; exact HD3.out T HKD.out)
   obtain ⟨a1, a4⟩ := HIDE.out
   have CR := Lib.hid (rAddAlias_any w1 _ _ M L HMw.out HRM.out nm (by have := HNL.out; omega) (.slice pt tos.length ct) tos HRw.out (fun s hs => by have := HSL.out s hs; omega) (by have := HTL.out; omega))
   rw [← HX.out] at CR
   unfold rtV at CR
   go_wp2_with (first | refine wpList_ld rfl rtM HB.out _ rfl rfl ?_)
   refine CR.out.mono ?_
   rintro e w2 ⟨uv', av', L', rfl, hr', hk⟩
   obtain ⟨pu', cu', pa', ca', rfl, rfl, -, -⟩ := hr'.forms
   have HR2 := Lib.hid hr'
   have HA := Lib.hid (HA.out.keeps hk)
   have HZ := Lib.hid (HZ.out.keeps hk)
   have HG := Lib.hid (HG.out.keeps hk)
   have HTw := Lib.hid (HTw.out.keeps hk)
   have HRw := Lib.hid (HRw.out.keeps hk)
   have HK := Lib.hid (HK.out.trans hk)
   clear hr' hk CR HB HIDE a1 a4
   go_upto_region 17 with (refine wpList_st (ds := #[.string (bstr rM.1.dom), .int .i64 rM.1.next, .slice pu' rM.1.us.length cu', .slice pa' L'.length ca', .int .i64 rM.2.1, .int .i64 rM.2.2]) rfl gotM HG.out rfl (by simp [Value.oneCell']) _ _ rfl rfl rfl rfl ?_; intro w3 hB3 hM3; have HG3 := Lib.hid hB3; have HM3 := Lib.hid hM3; clear hB3 hM3)
   have HT3 := Lib.hid (HTw.out.blkO HM3.out HG.out (by decide) (by have := HQ.out; omega))
   have HR3 := Lib.hid (HR2.out.blk HM3.out HG.out (by decide))
   have HA3 := Lib.hid (HA.out.mods HM3.out (fun e => by omega))
   have HZ3 := Lib.hid (HZ.out.mods HM3.out (fun e => by omega))
   have HK3 := Lib.hid (HM3.out.keeps HK.out (fun x hx => by have := HQ.out; omega))
   have HRw := Lib.hid (HR.out.keeps HK3.out)
   clear HTw HR2 HA HZ HG HM3 HK
   have a1 : w3.cell? ⟨q + 1, 1, none⟩ = some (.string (bstr nm)) := by rw [HA3.out.cell]; rfl
   have a4 : w3.cell? ⟨q + 1, 4, none⟩ = some (.slice pt tos.length ct) := by rw [HA3.out.cell]; rfl
   have HA14 := Lib.hid (And.intro a1 a4)
   clear a1 a4
   have HKX := Lib.hid (show Keeps w3 w3.drew from (Keeps.refl _).drew)
   have HNQ := Lib.hid (show ¬ TFr g b1 b2 (q + 1) from by have := HQ.out; rintro (h | h | h) <;> omega)
   refine wp_region_noPanic ?_
   refine wp_region_held_drew (S := fun w' => Mods (TFr g b1 b2) w3 w') (by kernel_rfl) ((Mods.refl (TFr g b1 b2) w3).drew) (fun _ => ?_)
   have hHeld : Mods (TFr g b1 b2) w3 (w3).drew := (Mods.refl (TFr g b1 b2) w3).drew
   generalize World.drew w3 = xs at *
   refine tq 0 66 ?_
   refine tq 1 67 ?_
   refine tq 2 68 ?_ (hy := fun w' hSw => by
    have hSw : Mods (TFr g b1 b2) w3 w' := hSw
    have h0 := hSw.cell HA14.out.1 HNQ.out
    clear hSw
    go_simp
    try with_reducible rfl)
   refine tq 4 70 ?_
   refine tq 5 71 ?_ (hy := fun w' hSw => by
    have hSw : Mods (TFr g b1 b2) w3 w' := hSw
    have h0 := hSw.cell HA14.out.2 HNQ.out
    clear hSw
    go_simp
    try with_reducible rfl)
   refine rd1 3 (fun K hK => ?_)
   go_simp
   obtain ⟨g0, hg0⟩ : ∃ z, z = (World.heap xs).size := ⟨_, rfl⟩
   have H0 := Lib.hid (ownsZ (w := xs) (e := 9) (C := 1) hg0 (show w3.heap.size ≤ g0 from by rw [hg0]; exact hHeld.size))
   have hb := hHeld.alloc (.cells #[] 9)
   have HKX := Lib.hid (HKX.out.alloc (.cells #[] 9))
   rw [← hg0]
   clear hg0
   generalize World.alloc xs (.cells #[] 9) = x3 at *
   refine bkm hK hb ?_
   clear hK K hHeld
   have hHeld : Mods (TFr g b1 b2) w3 x3 := hb
   clear hb
   refine rd1 6 (fun K hK => ?_)
   refine step_apps (base := w3.heap.size) txok.s (by decide) rfl _ _ rfl (.slice (some ⟨g0, 0, none⟩) 0 0) (.slice pt tos.length ct) 0 tos.length [] (tos.map strV) rfl rfl H0.out (by have h := rowS_row (HRw.out.keeps HKX.out); rwa [List.length_map] at h) (oneCell_strs tos) (by have := HTL.out; omega) (by decide) hHeld.size ?_
   intro v6 x6 ho6 hg6
   rw [Nat.zero_add, List.nil_append] at ho6
   obtain ⟨p6, c6, rfl, -, -⟩ := ownsRow_form ho6
   have hb := hHeld.grown hg6 (fun k hk hl => by have := ownsRow_base H0.out k hk; omega)
   have HKX := Lib.hid (HKX.out.grown hg6 (fun k hk => ownsRow_base H0.out k hk))
   have H6 := Lib.hid ho6
   clear ho6 hg6 H0
   show K (Act.put _ (some 72) _) x6
   refine bkm hK hb ?_
   clear hK K hHeld
   have hHeld : Mods (TFr g b1 b2) w3 x6 := hb
   clear hb
   refine rd1 7 (fun K hK => ?_)
   go_simp
   refine (addAlias_any _ g b1 b2 n T (HT3.out.keeps HKX.out) HN1.out nm HNL2.out (.slice p6 tos.length c6) tos (Own.row (show Own _ w3.heap.size 9 (.slice p6 tos.length c6) (tos.map strV) from by unfold Own; rw [List.length_map]; exact H6.out)) HSL2.out HTL2.out).mono ?_
   rw [← HY.out]
   rintro e x7 ⟨rfl, hT4, hM4⟩
   have HT4 := Lib.hid hT4
   have hb := hHeld.trans hM4 (fun x hx _ => hx)
   have HR4 := Lib.hid ((HR3.out.keeps HKX.out).mods hM4 (HT3.out.keeps HKX.out).rows)
   have HG4 := Lib.hid ((HG3.out.keeps HKX.out).mods hM4 (by have := HQ.out; rintro (h | h | h) <;> omega))
   have HZ4 := Lib.hid ((HZ3.out.keeps HKX.out).mods hM4 (by have := HQ.out; rintro (h | h | h) <;> omega))
   clear hT4 hM4
   go_wp2_with fail
   refine bkm hK hb ?_
   clear hK K hHeld
   have hHeld : Mods (TFr g b1 b2) w3 x7 := hb
   clear hb
   refine tq 8 10 ?_
   refine wpAnyH_done (by kernel_rfl) ?_ _
   refine NoPanic.normal ?_
   go_wp2_with fail
   go_meet
   refine ⟨_, _, rfl, rfl, Lib.hid ⟨pu', cu', pa', ca', L', ⟨HR4.out, HT4.out, (Mods.of_keeps HK3.out).trans hHeld (fun x hx _ => hx), HG4.out, HZ4.out⟩⟩, Lib.hid (fun e => ?_)⟩
   rw [HEQ.out e]; exact ⟨by rw [HX.out, addA_n], rfl⟩
  have HK3N := Lib.hid k3
  have t3 : (kd == (3 : Int)) = false := by simp [k3]
  clear k3
  by_cases k4 : kd = 4
  ·have HKD := Lib.hid k4
   have t4 : (kd == (4 : Int)) = true := by simp [k4]
   clear k4
   have HX := Lib.hid (show rM = dropA M nm from by rw [← HEM.out]; exact HD4.out M HKD.out)
   have HY := Lib.hid (show rT = dropA T nm from by rw [← HET.out]; exact HD4.out T HKD.out)
   obtain ⟨a1, a4⟩ := HIDE.out
   have CR := Lib.hid (rDropAlias_any w1 _ _ M L HMw.out HRM.out nm)
   rw [← HX.out] at CR
   unfold rtV at CR
   go_wp2_with (first | refine wpList_ld rfl rtM HB.out _ rfl rfl ?_)
   refine CR.out.mono ?_
   rintro e w2 ⟨uv', av', L', rfl, hr', hk⟩
   obtain ⟨pu', cu', pa', ca', rfl, rfl, -, -⟩ := hr'.forms
   have HR2 := Lib.hid hr'
   have HA := Lib.hid (HA.out.keeps hk)
   have HZ := Lib.hid (HZ.out.keeps hk)
   have HG := Lib.hid (HG.out.keeps hk)
   have HTw := Lib.hid (HTw.out.keeps hk)
   have HRw := Lib.hid (HRw.out.keeps hk)
   have HK := Lib.hid (HK.out.trans hk)
   clear hr' hk CR HB HIDE a1 a4
   go_upto_region 20 with (refine wpList_st (ds := #[.string (bstr rM.1.dom), .int .i64 rM.1.next, .slice pu' rM.1.us.length cu', .slice pa' L'.length ca', .int .i64 rM.2.1, .int .i64 rM.2.2]) rfl gotM HG.out rfl (by simp [Value.oneCell']) _ _ rfl rfl rfl rfl ?_; intro w3 hB3 hM3; have HG3 := Lib.hid hB3; have HM3 := Lib.hid hM3; clear hB3 hM3)
   have HT3 := Lib.hid (HTw.out.blkO HM3.out HG.out (by decide) (by have := HQ.out; omega))
   have HR3 := Lib.hid (HR2.out.blk HM3.out HG.out (by decide))
   have HA3 := Lib.hid (HA.out.mods HM3.out (fun e => by omega))
   have HZ3 := Lib.hid (HZ.out.mods HM3.out (fun e => by omega))
   have HK3 := Lib.hid (HM3.out.keeps HK.out (fun x hx => by have := HQ.out; omega))
   clear HTw HR2 HA HZ HG HM3 HK
   clear HRw
   have a1 : w3.cell? ⟨q + 1, 1, none⟩ = some (.string (bstr nm)) := by rw [HA3.out.cell]; rfl
   have CU := Lib.hid (dropAlias_any w3 g b1 b2 n T HT3.out nm (by have := HNL.out; omega))
   rw [← HY.out] at CU
   go_wp2_with fail
   refine CU.out.mono ?_
   rintro e w4 ⟨rfl, hT4, hM4⟩
   have HT4 := Lib.hid hT4
   have HM4 := Lib.hid hM4
   clear hT4 hM4 CU a1
   go_wp2_with fail
   go_meet
   refine ⟨_, _, rfl, rfl, Lib.hid ⟨pu', cu', pa', ca', L', ?_⟩, Lib.hid (fun e => ?_)⟩
   ·exact ⟨HR3.out.mods HM4.out HT3.out.rows, HT4.out, (Mods.of_keeps HK3.out).trans HM4.out (fun x hx _ => hx), HG3.out.mods HM4.out (by have := HQ.out; rintro (h | h | h) <;> omega), HZ3.out.mods HM4.out (by have := HQ.out; rintro (h | h | h) <;> omega)⟩
   ·rw [HEQ.out e]; exact ⟨by rw [HX.out, dropA_n], rfl⟩
  have HK4N := Lib.hid k4
  have t4 : (kd == (4 : Int)) = false := by simp [k4]
  clear k4
  have HX := Lib.hid (show rM = (M, 0, 0) from by rw [← HEM.out]; exact HD5.out M HK0N.out HK1N.out HK2N.out HK3N.out HK4N.out)
  have HY := Lib.hid (show rT = (T, 0, 0) from by rw [← HET.out]; exact HD5.out T HK0N.out HK1N.out HK2N.out HK3N.out HK4N.out)
  go_wp2_with (first | refine wpList_ld rfl rtM HB.out _ rfl rfl ?_ | (refine wpList_st (ds := #[.string (bstr M.dom), .int .i64 M.next, .slice pu M.us.length cu, .slice pa L.length ca]) rfl rtM HZ.out rfl (by simp [Value.oneCell']) _ _ rfl rfl rfl rfl ?_; intro w9 hB9 hM9; have HLd := Lib.hid (ld_run (P := Tryz.prog) rtM hB9); have HM9 := Lib.hid hM9; clear hB9 hM9))
  refine bodyPost_ret (v := .tuple #[.agg #[.string (bstr M.dom), .int .i64 M.next, .slice pu M.us.length cu, .slice pa L.length ca], .bool true]) (by simp [results, Tryz.results12, Sem.run_bind, Sem.run_pure, Result.andThen_ok, Act.put, asAddr, HLd.out]) rfl ?_
  rw [HX.out, HY.out]
  exact ⟨_, _, L, true, rfl, HMw.out.blk HM9.out HZ.out (by decide), (HTw.out.blkO HM9.out HZ.out (by decide) (by have := HQ.out; omega)).mono (by omega), (Mods.of_keeps HK.out).trans HM9.out (fun x hx hl => by have := HQ.out; omega), fun _ => rfl⟩
 case rest =>
 obtain ⟨n', e', rfl, rfl, HC, HV⟩ := hcut
 obtain ⟨pu', cu', pa', ca', L', hmid⟩ := HC.out
 obtain ⟨w5, rfl⟩ : ∃ z : World, z = wc := ⟨_, rfl⟩
 have HMID := Lib.hid hmid
 clear HC hmid HIDE HB HA HZ HG HTw HMw HRw HK
 have HRNG := Lib.hid (show ∀ x, Mods (· = q + 1 + 1) w5 x → x.rangeAt (q + 1 + 1 + 1) 0 [.string (bstr rM.1.dom), .int .i64 rM.1.next, .slice pu' rM.1.us.length cu', .slice pa' L'.length ca'] from fun x hS j v hv => by
  have hj : j < 4 := by have := (List.getElem?_eq_some_iff.1 hv).1; simpa using this
  rw [(HMID.out.got.mods hS (by omega)).cell, Nat.zero_add]
  rcases (show j = 0 ∨ j = 1 ∨ j = 2 ∨ j = 3 by omega) with rfl | rfl | rfl | rfl
  all_goals (simp at hv; subst hv; rfl))
 have g4 : w5.cell? ⟨q + 1 + 1 + 1, 4, none⟩ = some (.int .i64 rM.2.1) := by rw [HMID.out.got.cell]; rfl
 have g5 : w5.cell? ⟨q + 1 + 1 + 1, 5, none⟩ = some (.int .i64 rM.2.2) := by rw [HMID.out.got.cell]; rfl
 have HZ := Lib.hid HMID.out.res.drew
 go_upto_region 21 with fail
 by_cases hne : n' = rM.2.1
 ·have hb : (n' == rM.2.1) = true := by simp [hne]
  clear hne
  refine wp_region_noPanic ?_
  refine wp_region_held_drew (S := fun w' => Mods (· = q + 1 + 1) w5 w') (by kernel_rfl) ((Mods.refl (· = q + 1 + 1) w5).drew) (fun _ => ?_)
  have hHeld : Mods (· = q + 1 + 1) w5 (w5).drew := (Mods.refl (· = q + 1 + 1) w5).drew
  generalize World.drew w5 = xs at *
  refine tq 0 84 ?_
  refine wpAnyH_take (i := 1) (by rfl) (by kernel_rfl) (by kernel_rfl) (by kernel_rfl) (by intro _ _ _ h; exact h) (yieldsIf_ldR (by kernel_rfl) rtM (fun x hS => HRNG.out x hS) _ rfl rfl) (by assumption) ?rest8
  change wpAnyH _ _ _ _ _ _ _ (Act.put _ (some 85) _) _
  try simp only [Act.put, List.setIfInBounds_toArray, List.set_cons_zero, List.set_cons_succ]
  refine tq 2 86 ?_
  refine tq 3 87 ?_
  refine tq 4 88 ?_ (hy := fun w' hSw => by
   have hSw : Mods (· = q + 1 + 1) w5 w' := hSw
   have h0 := hSw.cell g4 (show ¬ (q + 1 + 1 + 1 = q + 1 + 1) from by omega)
   clear hSw
   go_simp
   try with_reducible rfl)
  refine tq 5 89 ?_
  refine tq 6 90 ?_
  refine tq 7 91 ?_
  refine tq 8 92 ?_
  refine tq 9 93 ?_ (hy := fun w' hSw => by
   have hSw : Mods (· = q + 1 + 1) w5 w' := hSw
   have h0 := hSw.cell g5 (show ¬ (q + 1 + 1 + 1 = q + 1 + 1) from by omega)
   clear hSw
   go_simp
   try with_reducible rfl)
  refine tq 10 94 ?_
  refine tq 11 95 ?_
  refine rd1 12 (fun K hK => ?_)
  refine step_st (ds := #[.string (bstr rM.1.dom), .int .i64 rM.1.next, .slice pu' rM.1.us.length cu', .slice pa' L'.length ca']) rfl rtM HZ.out rfl (by simp [Value.oneCell']) _ _ rfl rfl rfl rfl ?_
  intro yF hBF hMF
  have hb := hHeld.trans hMF (fun x h _ => h)
  have HLd := Lib.hid (ld_run (P := Tryz.prog) rtM hBF)
  clear hBF hMF
  refine bkm hK hb ?_
  clear hK K hHeld
  have hHeld : Mods (· = q + 1 + 1) w5 yF := hb
  clear hb
  refine tq 13 7 ?_
  refine wpAnyH_done (by kernel_rfl) ?_ _
  refine NoPanic.normal ?_
  go_wp2_with fail
  refine bodyPost_ret (v := .tuple #[.agg #[.string (bstr rM.1.dom), .int .i64 rM.1.next, .slice pu' rM.1.us.length cu', .slice pa' L'.length ca'], .bool (e' == rM.2.2)]) (by simp [results, Tryz.results12, Sem.run_bind, Sem.run_pure, Result.andThen_ok, Act.put, asAddr, HLd.out]) rfl ?_
  exact ⟨_, _, L', (e' == rM.2.2), rfl, HMID.out.rt.blk hHeld HMID.out.res (by decide), HMID.out.tab.blkO hHeld HMID.out.res (by decide) (by have := HQ.out; omega), HMID.out.md.trans hHeld (fun x hx hl => by have := HQ.out; omega), fun e => by rw [(HV.out e).2]; simp⟩
 ·have hb : (n' == rM.2.1) = false := by simp [hne]
  have HNE := Lib.hid hne
  clear hne
  refine wp_region_noPanic ?_
  refine wp_region_held_drew (S := fun w' => Mods (· = q + 1 + 1) w5 w') (by kernel_rfl) ((Mods.refl (· = q + 1 + 1) w5).drew) (fun _ => ?_)
  have hHeld : Mods (· = q + 1 + 1) w5 (w5).drew := (Mods.refl (· = q + 1 + 1) w5).drew
  generalize World.drew w5 = xs at *
  refine tq 0 84 ?_
  refine wpAnyH_take (i := 1) (by rfl) (by kernel_rfl) (by kernel_rfl) (by kernel_rfl) (by intro _ _ _ h; exact h) (yieldsIf_ldR (by kernel_rfl) rtM (fun x hS => HRNG.out x hS) _ rfl rfl) (by assumption) ?rest21
  change wpAnyH _ _ _ _ _ _ _ (Act.put _ (some 85) _) _
  try simp only [Act.put, List.setIfInBounds_toArray, List.set_cons_zero, List.set_cons_succ]
  refine tq 2 86 ?_
  refine tq 3 87 ?_
  refine tq 4 88 ?_ (hy := fun w' hSw => by
   have hSw : Mods (· = q + 1 + 1) w5 w' := hSw
   have h0 := hSw.cell g4 (show ¬ (q + 1 + 1 + 1 = q + 1 + 1) from by omega)
   clear hSw
   go_simp
   try with_reducible rfl)
  refine tq 5 89 ?_
  refine tq 6 90 ?_
  refine wpAnyH_take (i := 7) (by rfl) (by kernel_rfl) (by kernel_rfl) (by kernel_rfl) (by intro _ _ _ h; exact h) (Or.inr ⟨by kernel_rfl, rfl⟩) (by assumption) ?rest27
  change wpAnyH _ _ _ _ _ _ _ (Act.put _ (some 91) _) _
  try simp only [Act.put, List.setIfInBounds_toArray, List.set_cons_zero, List.set_cons_succ]
  refine wpAnyH_take (i := 8) (by rfl) (by kernel_rfl) (by kernel_rfl) (by kernel_rfl) (by intro _ _ _ h; exact h) (Or.inr ⟨by kernel_rfl, rfl⟩) (by assumption) ?rest28
  change wpAnyH _ _ _ _ _ _ _ (Act.put _ (some 92) _) _
  try simp only [Act.put, List.setIfInBounds_toArray, List.set_cons_zero, List.set_cons_succ]
  refine wpAnyH_take (i := 9) (by rfl) (by kernel_rfl) (by kernel_rfl) (by kernel_rfl) (by intro _ _ _ h; exact h) (Or.inr ⟨by kernel_rfl, rfl⟩) (by assumption) ?rest29
  change wpAnyH _ _ _ _ _ _ _ (Act.put _ (some 93) _) _
  try simp only [Act.put, List.setIfInBounds_toArray, List.set_cons_zero, List.set_cons_succ]
  refine wpAnyH_take (i := 10) (by rfl) (by kernel_rfl) (by kernel_rfl) (by kernel_rfl) (by intro _ _ _ h; exact h) (Or.inr ⟨by kernel_rfl, rfl⟩) (by assumption) ?rest30
  change wpAnyH _ _ _ _ _ _ _ (Act.put _ (some 94) _) _
  try simp only [Act.put, List.setIfInBounds_toArray, List.set_cons_zero, List.set_cons_succ]
  refine tq 11 95 ?_
  refine rd1 12 (fun K hK => ?_)
  refine step_st (ds := #[.string (bstr rM.1.dom), .int .i64 rM.1.next, .slice pu' rM.1.us.length cu', .slice pa' L'.length ca']) rfl rtM HZ.out rfl (by simp [Value.oneCell']) _ _ rfl rfl rfl rfl ?_
  intro yF hBF hMF
  have hb := hHeld.trans hMF (fun x h _ => h)
  have HLd := Lib.hid (ld_run (P := Tryz.prog) rtM hBF)
  clear hBF hMF
  refine bkm hK hb ?_
  clear hK K hHeld
  have hHeld : Mods (· = q + 1 + 1) w5 yF := hb
  clear hb
  refine tq 13 7 ?_
  refine wpAnyH_done (by kernel_rfl) ?_ _
  refine NoPanic.normal ?_
  go_wp2_with fail
  refine bodyPost_ret (v := .tuple #[.agg #[.string (bstr rM.1.dom), .int .i64 rM.1.next, .slice pu' rM.1.us.length cu', .slice pa' L'.length ca'], .bool false]) (by simp [results, Tryz.results12, Sem.run_bind, Sem.run_pure, Result.andThen_ok, Act.put, asAddr, HLd.out]) rfl ?_
  exact ⟨_, _, L', false, rfl, HMID.out.rt.blk hHeld HMID.out.res (by decide), HMID.out.tab.blkO hHeld HMID.out.res (by decide) (by have := HQ.out; omega), HMID.out.md.trans hHeld (fun x hx hl => by have := HQ.out; omega), fun e => absurd (HV.out e).1 HNE.out⟩
end Usr
end Go.Proofs.YtklbemkafdccgaaGreat

/- users' law: made, a table behind acts, in both ways. -/
namespace Go.Proofs.YtklbemkafdccgaaGreat
open Go.RowKit
namespace Usr
open Adr (Str domainB)
open Mp Go.Maps
open Frm (ownsRow_form)
def tabN (dom : Str) : TabP := { dom := lowL dom, next := 1, us := [], al := [] }
def actsP (t : TabP) (l : List ActU) : TabP := l.foldl (fun t x => (doP t x.kind x.name x.lb x.lc x.tos).1) t
theorem actsP_snoc (t : TabP) (l : List ActU) (x : ActU) : actsP t (l ++ [x]) = (doP (actsP t l) x.kind x.name x.lb x.lc x.tos).1 := by
 unfold actsP
 rw [List.foldl_append]
 rfl
theorem right_acts {t : TabP} (h : Right t) : ∀ l, Right (actsP t l)
 | [] => h
 |x :: l => right_acts (right_do h x.kind x.name x.lb x.lc x.tos) l
theorem dom_acts (t : TabP) : ∀ l, (actsP t l).dom = t.dom
 | [] => rfl
 |x :: l => (dom_acts _ l).trans (dom_do t x.kind x.name x.lb x.lc x.tos)
/-- both tables beside a block with the document's -/
structure MdAt (W wr : World) (g b1 b2 c n : Nat) (t : TabP) (pu : Option Addr) (cu : Nat) (pa : Option Addr) (ca : Nat) (L : List (AlP × Value)) : Prop where
 tab : TabAt wr g b1 b2 n t
 rt : RT wr (.slice pu t.us.length cu) (.slice pa L.length ca) t L
 blk : Blk wr c 32 #[.string (bstr t.dom), .int .i64 t.next, .slice pu t.us.length cu, .slice pa L.length ca]
 kp : Keeps W wr
 lo : W.heap.size ≤ g ∧ W.heap.size ≤ b1 ∧ W.heap.size ≤ b2 ∧ W.heap.size ≤ c
 ne : c ≠ g ∧ c ≠ b1 ∧ c ≠ b2
theorem MdAt.keeps {W w w' : World} {g b1 b2 c n : Nat} {t : TabP} {pu : Option Addr} {cu : Nat} {pa : Option Addr} {ca : Nat} {L : List (AlP × Value)} (h : MdAt W w g b1 b2 c n t pu cu pa ca L) (k : Keeps w w') : MdAt W w' g b1 b2 c n t pu cu pa ca L :=
 ⟨h.tab.keeps k, h.rt.keeps k, h.blk.keeps k, h.kp.trans k, h.lo, h.ne⟩
theorem actM13 : Mids Tryz.prog 39 5 := ⟨⟨_, Tryz.underlying39, rfl⟩, by kernel_rfl⟩
theorem RT.new (w : World) (dom : Str) : RT w (.slice none 0 0) (.slice none 0 0) (tabN dom) [] :=
 ⟨World.ownsRow_nil _ _ _ _, World.ownsRow_nil _ _ _ _, rfl, fun x hx => by cases hx⟩
def MadeDid (W : World) (dom : Str) (l : List ActU) (e : Ending) (w' : World) : Prop :=
 (domainB dom = true ∧ ∃ g b1 b2 c pu cu pa ca L, e = .returned (.tuple #[.pointer (some ⟨g, 0, none⟩), rtV (.slice pu (actsP (tabN dom) l).us.length cu) (.slice pa L.length ca) (actsP (tabN dom) l)]) ∧ MdAt W w' g b1 b2 c l.length (actsP (tabN dom) l) pu cu pa ca L) ∨
 (domainB dom = false ∧ ∃ ld : Str, e = .returned (.tuple #[.pointer none, .agg #[.string (bstr ld), .int .i64 1, .slice none 0 0, .slice none 0 0]]) ∧ Keeps W w')
theorem au_range {w : World} {v : Value} {l : List ActU} (hr : RowS w 5 v l.length (l.flatMap auC)) {j : Nat} (hj : j < l.length) : ∃ b off cap, v = .slice (some ⟨b, off, none⟩) l.length cap ∧ w.rangeAt b (off + j * 5) [.int .i64 l[j].kind, .string (bstr l[j].name), .int .i64 l[j].lb, .int .i64 l[j].lc, l[j].tv] := by
 obtain ⟨b, off, cap, hv, -, -, HC⟩ := hr.at_ (by omega)
 refine ⟨b, off, cap, hv, fun m x hm => ?_⟩
 have h5 : m < 5 := by have := (List.getElem?_eq_some_iff.1 hm).1; simpa using this
 have := HC.out (j * 5 + m) x (by rw [au_at hj h5]; exact hm)
 rwa [← Nat.add_assoc] at this
set_option maxRecDepth 100000 in
set_option maxHeartbeats 8000000 in
theorem made_any (W : World) (dom : Str) (hd : dom.length ≤ 100) (v : Value) (l : List ActU) (hr : RowS W 5 v l.length (l.flatMap auC)) (hok : ∀ x ∈ l, AuOk W x) (hf : fewU l) :
  Calls Tryz.prog 16 #[.string (bstr dom), v] W (MadeDid W dom l) := by
 obtain ⟨p0, cap0, rfl, -, -⟩ := hr.form
 have HR := Lib.hid hr
 have HOK := Lib.hid hok
 have HF := Lib.hid hf
 have HD := Lib.hid hd
 clear hr hok hf hd
 go_enter Tryz.func16, Tryz.ntmps16
 go_upto_region 1 with fail
 generalize hW : World.alloc W _ = w1
 have HK := Lib.hid (show Keeps W w1 from by rw [← hW]; exact (Keeps.refl _).alloc _)
 have HZ := Lib.hid (show Blk w1 W.heap.size 32 #[.string ⟨#[]⟩, .int .i64 0, .slice none 0 0, .slice none 0 0] from by rw [← hW]; exact Blk.new _ _ _ rfl)
 clear hW
 obtain ⟨r, hrz⟩ : ∃ z, W.heap.size = z := ⟨_, rfl⟩
 have HQ := Lib.hid hrz
 rw [hrz] at HZ ⊢
 clear hrz
 go_wp2_with fail
 refine (new_any w1 dom (by have := HD.out; omega)).mono ?_
 rintro e w2 (⟨hdom, g, b1, b2, rfl, hlo, hT, hk⟩ | ⟨hdom, rfl, hk⟩)
 ·have HDOM := Lib.hid hdom
  have HT := Lib.hid hT
  have HLO := Lib.hid (show (r ≤ g ∧ r ≤ b1 ∧ r ≤ b2) ∧ r ≠ g ∧ r ≠ b1 ∧ r ≠ b2 from by have := HZ.out.lt; omega)
  have HK := Lib.hid (HK.out.trans hk)
  have HZ := Lib.hid (HZ.out.keeps hk)
  clear hdom hT hlo hk
  go_wp2_with fail
  refine (rLower_any dom (by have := HD.out; omega) _).mono ?_
  rintro e w3 ⟨rfl, hk⟩
  have HT := Lib.hid (HT.out.keeps hk)
  have HK := Lib.hid (HK.out.trans hk)
  have HZ := Lib.hid (HZ.out.keeps hk)
  clear hk
  have HT := Lib.hid (show TabAt w3 g b1 b2 0 (tabN dom) from HT.out)
  go_upto_region 3 with fail
  generalize hW : World.alloc w3 _ = w4
  have HC := Lib.hid (show Blk w4 w3.heap.size 32 #[.string (bstr (tabN dom).dom), .int .i64 (tabN dom).next, .slice none (tabN dom).us.length 0, .slice none ([] : List (AlP × Value)).length 0] from by rw [← hW]; exact Blk.new _ _ _ rfl)
  have HK4 := Lib.hid (show Keeps w3 w4 from by rw [← hW]; exact (Keeps.refl _).alloc _)
  clear hW
  obtain ⟨c, hc⟩ : ∃ z, w3.heap.size = z := ⟨_, rfl⟩
  have HCN := Lib.hid (show W.heap.size ≤ c ∧ (c ≠ g ∧ c ≠ b1 ∧ c ≠ b2) ∧ c ≠ r from by
   have h1 := HT.out.lt
   have h2 := HK.out.size
   have h3 := HZ.out.lt
   omega)
  rw [hc] at HC ⊢
  clear hc
  have HMD := Lib.hid (show MdAt W w4 g b1 b2 c 0 (tabN dom) none 0 none 0 [] from ⟨HT.out.keeps HK4.out, RT.new _ _, HC.out, HK.out.trans HK4.out, by have := HLO.out; have := HQ.out; have := HCN.out; omega, HCN.out.2.1⟩)
  have HZ4 := Lib.hid (HZ.out.keeps HK4.out)
  clear HT HC HK4 HK HZ
  go_wp2_with fail
  go_loopw [8] (fun iv wr => ∃ (j : Nat), iv = .int .i64 (j : Int) ∧ Hid (j ≤ l.length ∧ (∃ pu cu pa ca L, MdAt W wr g b1 b2 c j (actsP (tabN dom) (l.take j)) pu cu pa ca L) ∧ Blk wr r 32 #[.string ⟨#[]⟩, .int .i64 0, .slice none 0 0, .slice none 0 0])) (fun iv _ => l.length - (RowKit.intOf iv).toNat)
  case atStart => exact ⟨0, rfl, Lib.hid ⟨Nat.zero_le _, ⟨none, 0, none, 0, [], HMD.out⟩, HZ4.out⟩⟩
  case round =>
   obtain ⟨j, rfl, HH⟩ := hrel
   obtain ⟨wz, rfl⟩ : ∃ z : World, z = wr := ⟨_, rfl⟩
   obtain ⟨pu, cu, pa, ca, L, hmd⟩ := HH.out.2.1
   have HMZ := Lib.hid hmd
   have HJ := Lib.hid HH.out.1
   have HZZ := Lib.hid HH.out.2.2
   clear hmd HMD HZ4
   have hw : IntKind.i64.wrap ((j : Int) + 1) = (j : Int) + 1 := IntWalk.i64_in _ (by have := HF.out.1; have := HJ.out; omega)
   by_cases hlt : j < l.length
   ·have hd : decide ((j : Int) < (l.length : Int)) = true := decide_eq_true (by omega)
    obtain ⟨b, off, cap, hv, hrg⟩ := au_range (HR.out.keeps HMZ.out.kp) hlt
    simp only [Value.slice.injEq] at hv
    obtain ⟨rfl, -, rfl⟩ := hv
    have HX := Lib.hid (show actsP (tabN dom) (l.take (j + 1)) = (doP (actsP (tabN dom) (l.take j)) l[j].kind l[j].name l[j].lb l[j].lc l[j].tos).1 from by rw [List.take_succ_eq_append_getElem hlt, actsP_snoc])
    have HRT := Lib.hid (right_acts (right_new (lowL dom)) (l.take j))
    have HRT := Lib.hid (show Right (actsP (tabN dom) (l.take j)) from HRT.out)
    have HOX := Lib.hid (HOK.out _ (List.getElem_mem hlt))
    have HFX := Lib.hid (HF.out.2 _ (List.getElem_mem hlt))
    obtain ⟨pt, ct, hpt, -, -⟩ := HOX.out.row.form
    have HRW := Lib.hid HOX.out.row
    rw [hpt] at HRW hrg
    rw [List.length_map] at HRW hrg
    have hbl : b < W.heap.size := by
     have := (HR.out.at_ (by omega))
     obtain ⟨b', off', cap', hv', -, -, HC'⟩ := this
     simp only [Value.slice.injEq, Option.some.injEq, Addr.mk.injEq] at hv'
     obtain ⟨⟨rfl, -, -⟩, -, -⟩ := hv'
     exact lt_of_cell (HC'.out (j * 5 + 0) _ (by rw [au_at hlt (by decide)]; rfl))
    have HBL := Lib.hid hbl
    have HRG := Lib.hid (show ∀ x, Mods (fun y => TFr g b1 b2 y ∨ y = c) wz x → x.rangeAt b (off + j * 5) [.int .i64 l[j].kind, .string (bstr l[j].name), .int .i64 l[j].lb, .int .i64 l[j].lc, .slice pt l[j].tos.length ct] from fun x hS m u hm => hS.cell (hrg m u hm) (by
     have h1 := HMZ.out.lo
     have h2 := HBL.out
     rintro ((h | h | h) | h) <;> (simp only at h; omega)))
    clear hrg hpt hbl HOX
    generalize l[j].kind = kd at *
    generalize l[j].name = nm at *
    generalize l[j].lb = lb at *
    generalize l[j].lc = lc at *
    generalize l[j].tos = tos at *
    generalize actsP (tabN dom) (l.take j) = T at *
    go_upto_region 6 with fail
    have HMd := Lib.hid (HMZ.out.keeps (Keeps.refl wz).drew)
    have HZd := Lib.hid HZZ.out.drew
    have HJN := Lib.hid (show j < 900000 from by have := HF.out.1; have := HJ.out; omega)
    refine wp_region_noPanic ?_
    refine wp_region_held_drew (S := fun w' => Mods (fun y => TFr g b1 b2 y ∨ y = c) wz w') (by kernel_rfl) ((Mods.refl (fun y => TFr g b1 b2 y ∨ y = c) wz).drew) (fun _ => ?_)
    have hHeld : Mods (fun y => TFr g b1 b2 y ∨ y = c) wz (wz).drew := (Mods.refl (fun y => TFr g b1 b2 y ∨ y = c) wz).drew
    generalize World.drew wz = xs at *
    refine tq 0 25 ?_
    refine tq 2 27 ?_
    refine tq 3 28 ?_
    refine tq 4 29 ?_
    refine wpAnyH_take (i := 5) (by rfl) (by kernel_rfl) (by kernel_rfl) (by kernel_rfl) (by intro _ _ _ h; exact h) (yieldsIf_ldR (by kernel_rfl) actM13 (fun x hS => HRG.out x hS) _ rfl rfl) (by assumption) ?rest5
    change wpAnyH _ _ _ _ _ _ _ (Act.put _ (some 30) _) _
    try simp only [Act.put, List.setIfInBounds_toArray, List.set_cons_zero, List.set_cons_succ]
    refine rd1 1 (fun K hK => ?_)
    have hx0 : World.cell? xs ⟨c, 0, none⟩ = some (.string (bstr T.dom)) := by rw [HMd.out.blk.cell]; rfl
    have hx1 : World.cell? xs ⟨c, 1, none⟩ = some (.int .i64 T.next) := by rw [HMd.out.blk.cell]; rfl
    have hx2 : World.cell? xs ⟨c, 2, none⟩ = some (.slice pu T.us.length cu) := by rw [HMd.out.blk.cell]; rfl
    have hx3 : World.cell? xs ⟨c, 3, none⟩ = some (.slice pa L.length ca) := by rw [HMd.out.blk.cell]; rfl
    go_simp
    clear hx0 hx1 hx2 hx3
    have hb := hHeld
    refine bkm hK hb ?_
    clear hK K hHeld
    have hHeld : Mods (fun y => TFr g b1 b2 y ∨ y = c) wz xs := hb
    clear hb
    refine rd1 6 (fun K hK => ?_)
    go_simp
    refine (do_any _ g b1 b2 j T T HMd.out.tab HRT.out HJN.out _ _ L HMd.out.rt HRT.out kd nm lb lc _ tos (HRW.out.keeps HMd.out.kp) HFX.out.1 HFX.out.2.1 HFX.out.2.2).mono ?_
    unfold DoDid
    rw [← HX.out]
    rintro e x6 ⟨uv', av', L', bl, rfl, hr', hT', hM', -⟩
    obtain ⟨pu', cu', pa', ca', rfl, rfl, -, -⟩ := hr'.forms
    unfold rtV
    have HR6 := Lib.hid hr'
    have HT6 := Lib.hid hT'
    have HB6 := Lib.hid (HMd.out.blk.mods hM' (by have := HMd.out.ne; rintro (h | h | h) <;> omega))
    have HZ6 := Lib.hid (HZd.out.mods hM' (by have := HLO.out; rintro (h | h | h) <;> omega))
    have HK6 := Lib.hid (hM'.keeps HMd.out.kp (by have := HMd.out.lo; rintro x (h | h | h) <;> omega))
    have HNE := Lib.hid (And.intro HMd.out.lo HMd.out.ne)
    have hb := hHeld.trans hM' (fun x hx _ => .inl hx)
    clear hr' hT' hM' HMd HZd
    generalize hTE : actsP (tabN dom) (l.take (j + 1)) = T' at *
    have HTE := Lib.hid hTE
    clear hTE
    go_wp2_with fail
    refine bkm hK hb ?_
    clear hK K hHeld
    have hHeld : Mods (fun y => TFr g b1 b2 y ∨ y = c) wz x6 := hb
    clear hb
    refine tq 7 24 ?_
    refine tq 8 32 ?_
    refine tq 9 33 ?_
    refine rd1 10 (fun K hK => ?_)
    refine step_st (ds := #[.string (bstr T'.dom), .int .i64 T'.next, .slice pu' T'.us.length cu', .slice pa' L'.length ca']) rfl rtM HB6.out rfl (by simp [Value.oneCell']) _ _ rfl rfl rfl rfl ?_
    intro xF hBF hMF
    have hb := hHeld.trans hMF (fun x h _ => .inr h)
    have HR7 := Lib.hid (HR6.out.blk hMF HB6.out (by decide))
    have HT7 := Lib.hid (HT6.out.blkO hMF HB6.out (by decide) HNE.out.2)
    have HZ7 := Lib.hid (HZ6.out.mods hMF (fun e => by have := HCN.out.2.2; omega))
    have HK7 := Lib.hid (hMF.keeps HK6.out (fun x hx => by have := HNE.out.1; omega))
    have HB7 := Lib.hid hBF
    clear hBF hMF HR6 HT6 HZ6 HK6 HB6
    refine bkm hK hb ?_
    clear hK K hHeld
    have hHeld : Mods (fun y => TFr g b1 b2 y ∨ y = c) wz xF := hb
    clear hb
    refine wpAnyH_done (by kernel_rfl) ?_ _
    refine NoPanic.normal ?_
    go_wp2_with fail
    go_roundw
    case rel => exact ⟨j + 1, by simp, Lib.hid ⟨by omega, ⟨pu', cu', pa', ca', L', by rw [HTE.out]; exact ⟨HT7.out, HR7.out, HB7.out, HK7.out, HNE.out.1, HNE.out.2⟩⟩, HZ7.out⟩⟩
    case measure => simp only [RowKit.intOf]; omega
   ·have hd : decide ((j : Int) < (l.length : Int)) = false := decide_eq_false (by omega)
    obtain rfl : j = l.length := by have := HJ.out; omega
    rw [List.take_length] at HMZ
    generalize hT : actsP (tabN dom) l = T at *
    go_upto_region 7 with fail
    have HZd := Lib.hid HZZ.out.drew
    have hne : c ≠ r := HCN.out.2.2
    refine wp_region_noPanic ?_
    refine wp_region_held_drew (S := fun w' => Mods (· = r) wz w') (by kernel_rfl) ((Mods.refl (· = r) wz).drew) (fun _ => ?_)
    have hHeld : Mods (· = r) wz (wz).drew := (Mods.refl (· = r) wz).drew
    generalize World.drew wz = xs at *
    refine tq 0 34 ?_
    refine wpAnyH_take (i := 1) (by rfl) (by kernel_rfl) (by kernel_rfl) (by kernel_rfl) (by intro _ _ _ h; exact h) (yieldsIf_ld (by kernel_rfl) rtM (fun x hS => HMZ.out.blk.mods hS (fun e => hne e)) _ rfl rfl) (by assumption) ?rest10
    change wpAnyH _ _ _ _ _ _ _ (Act.put _ (some 35) _) _
    try simp only [Act.put, List.setIfInBounds_toArray, List.set_cons_zero, List.set_cons_succ]
    refine tq 2 4 ?_
    refine rd1 3 (fun K hK => ?_)
    refine step_st (ds := #[.string (bstr T.dom), .int .i64 T.next, .slice pu T.us.length cu, .slice pa L.length ca]) rfl rtM HZd.out rfl (by simp [Value.oneCell']) _ _ rfl rfl rfl rfl ?_
    intro yF hBF hMF
    have hb := hHeld.trans hMF (fun x h _ => h)
    have HLd := Lib.hid (ld_run (P := Tryz.prog) rtM hBF)
    clear hBF hMF
    refine bkm hK hb ?_
    clear hK K hHeld
    have hHeld : Mods (· = r) wz yF := hb
    clear hb
    refine wpAnyH_done (by kernel_rfl) ?_ _
    refine NoPanic.normal ?_
    go_wp2_with fail
    refine bodyPost_ret (v := .tuple #[.pointer (some ⟨g, 0, none⟩), .agg #[.string (bstr T.dom), .int .i64 T.next, .slice pu T.us.length cu, .slice pa L.length ca]]) (by simp [results, Tryz.results16, Sem.run_bind, Sem.run_pure, Result.andThen_ok, Act.put, asAddr, HLd.out]) rfl ?_
    refine .inl ⟨HDOM.out, g, b1, b2, c, pu, cu, pa, ca, L, by rw [hT]; rfl, ?_⟩
    rw [hT]
    exact ⟨HMZ.out.tab.blkO hHeld HZZ.out (by decide) HLO.out.2, HMZ.out.rt.blk hHeld HZZ.out (by decide), HMZ.out.blk.mods hHeld (fun e => hne e), hHeld.keeps HMZ.out.kp (fun x hx => by have := HQ.out; omega), HMZ.out.lo, HMZ.out.ne⟩
 ·have HDOM := Lib.hid hdom
  have HK := Lib.hid (HK.out.trans hk)
  have HZ := Lib.hid (HZ.out.keeps hk)
  clear hdom hk
  go_wp2_with fail
  refine (rLower_any dom (by have := HD.out; omega) _).mono ?_
  rintro e w3 ⟨rfl, hk⟩
  have HK := Lib.hid (HK.out.trans hk)
  have HZ := Lib.hid (HZ.out.keeps hk)
  clear hk
  generalize lowL dom = ld at *
  go_upto_region 3 with fail
  generalize hW : World.alloc w3 _ = w4
  have HC := Lib.hid (show Blk w4 w3.heap.size 32 #[.string (bstr ld), .int .i64 1, .slice none 0 0, .slice none 0 0] from by rw [← hW]; exact Blk.new _ _ _ rfl)
  have HK4 := Lib.hid (show Keeps w3 w4 from by rw [← hW]; exact (Keeps.refl _).alloc _)
  clear hW
  obtain ⟨c, hc⟩ : ∃ z, w3.heap.size = z := ⟨_, rfl⟩
  have hne : c ≠ r := by have := HZ.out.lt; omega
  rw [hc] at HC ⊢
  clear hc
  have HZ4 := Lib.hid (HZ.out.keeps HK4.out)
  have HK := Lib.hid (HK.out.trans HK4.out)
  clear HK4 HZ
  go_wp2_with fail
  go_loopw [8] (fun iv wr => iv = .int .i64 0 ∧ w4 = wr) (fun iv _ => l.length - (RowKit.intOf iv).toNat)
  case atStart => exact ⟨rfl, rfl⟩
  case round =>
   obtain ⟨rfl, hwr⟩ := hrel
   subst hwr
   go_upto_region 7 with fail
   have HZd := Lib.hid HZ4.out.drew
   refine wp_region_noPanic ?_
   refine wp_region_held_drew (S := fun w' => Mods (· = r) w4 w') (by kernel_rfl) ((Mods.refl (· = r) w4).drew) (fun _ => ?_)
   have hHeld : Mods (· = r) w4 (w4).drew := (Mods.refl (· = r) w4).drew
   generalize World.drew w4 = xs at *
   refine tq 0 34 ?_
   refine wpAnyH_take (i := 1) (by rfl) (by kernel_rfl) (by kernel_rfl) (by kernel_rfl) (by intro _ _ _ h; exact h) (yieldsIf_ld (by kernel_rfl) rtM (fun x hS => HC.out.mods hS (fun e => hne e)) _ rfl rfl) (by assumption) ?rest13
   change wpAnyH _ _ _ _ _ _ _ (Act.put _ (some 35) _) _
   try simp only [Act.put, List.setIfInBounds_toArray, List.set_cons_zero, List.set_cons_succ]
   refine tq 2 4 ?_
   refine rd1 3 (fun K hK => ?_)
   refine step_st (ds := #[.string (bstr ld), .int .i64 1, .slice none 0 0, .slice none 0 0]) rfl rtM HZd.out rfl (by simp [Value.oneCell']) _ _ rfl rfl rfl rfl ?_
   intro yF hBF hMF
   have hb := hHeld.trans hMF (fun x h _ => h)
   have HLd := Lib.hid (ld_run (P := Tryz.prog) rtM hBF)
   clear hBF hMF
   refine bkm hK hb ?_
   clear hK K hHeld
   have hHeld : Mods (· = r) w4 yF := hb
   clear hb
   refine wpAnyH_done (by kernel_rfl) ?_ _
   refine NoPanic.normal ?_
   go_wp2_with fail
   refine bodyPost_ret (v := .tuple #[.pointer none, .agg #[.string (bstr ld), .int .i64 1, .slice none 0 0, .slice none 0 0]]) (by simp [results, Tryz.results16, Sem.run_bind, Sem.run_pure, Result.andThen_ok, Act.put, asAddr, HLd.out]) rfl ?_
   exact .inr ⟨HDOM.out, ld, rfl, hHeld.keeps HK.out (fun x hx => by have := HQ.out; omega)⟩
end Usr
end Go.Proofs.YtklbemkafdccgaaGreat
