/- queue: Add. -/
import Derived.Test.YtcleakjjefmmbaaGreatK43
import Derived.Test.YtcleakjjefmmbaaGreatQuClone
import Derived.Test.YtcleakjjefmmbaaGreatEnJob
import Derived.WideKeyEntry
namespace Go.Proofs.YtcleakjjefmmbaaGreat
open Go.RowKit
namespace Que
open Mp Go.Maps
open Vd (DiskAt Dsk On Few More)
open Sf (Says Tells Stays sMake sDrop)
open Env (JobP StP TgP JobAt JobOwn tgC stC jobA jobD jobM stok tgM stM noJob freshS fresh_any RdSt HB2 bytesL bytesE Short step_appG ownsRow_lower3 goodJ rowS_own)
open Bds (SlQ)
open Frm (ownsRow_mods ownsRow_keeps ownsRow_base ownsRow_form ownsRow_ne RetSI)
open Txl (FrmsR)
theorem frms_nil (w : World) (base : Nat) : FrmsR w base (.slice none 0 0) [] := ⟨⟨rfl, .inl ⟨none, 0, rfl, rfl, Nat.zero_le _, fun _ => rfl⟩⟩, fun x hx => absurd hx List.not_mem_nil, fun x hx => absurd hx List.not_mem_nil, fun b off n cap hv hn => by simp at hv⟩
theorem bytesL_le {j : JobP} : (bytesL j).length ≤ 10000000 := by
 unfold bytesL
 split
 ·rename_i h
  have h1 := Env.wrapL_le (k := 16) (p := Env.envL j)
  have h2 := Env.wrapL_le (k := 17) (p := j.body)
  have h3 := Env.stsL_le j.arr j.st 0
  have h4 : j.st.length ≤ 20 := by
   unfold goodJ at h
   simp only [Bool.and_eq_true, decide_eq_true_eq] at h
   have := h.1.1.2
   rw [this]
   exact Env.envB_len h.1.1.1
  rw [List.length_append, List.length_append]
  omega
 ·simp
/-- the variable is written: another number, no states -/
theorem rd_of {w X Y : World} {bj base : Nat} {id : Int} {j : JobP} {ut us ub us0 : Value} {A : Array Value} (h : JobOwn X base j ut us0 ub) (hb : w.heap.size ≤ base) (hB0 : Blk X bj 55 A) (hM : Mods (· = bj) X Y) (hB : Blk Y bj 55 (jobD id j.arr j.fl j.fd ut us ub)) (hk : Keeps w X) (hj : w.heap.size ≤ bj) (hs : us = .slice none 0 0) :
  RdSt w Y bj w.heap.size id j.arr j.fl j.fd ut j.tos us [] ub j.body (.slice none 0 0) [] := by
 subst hs
 refine ⟨hB, ?_, World.ownsRow_nil _ _ _ _, frms_nil _ _, (h.2.2.lower hb).modsT hM (fun x hx => by subst hx; exact Env.blk_ty hB0 (by decide)), hM.keeps hk (fun x hx => by rw [hx]; exact hj), hj⟩
 have h1 : X.ownsRow w.heap.size 75 3 ut j.tos.length (j.tos.flatMap tgC) := ownsRow_lower3 h.1 hb
 exact ownsRow_mods h1 hM (fun x hx e => ownsRow_ne h1 hB0 (by decide) (by rw [hx, e]))
theorem kpM : Mids Tryz.prog 118 8 := ⟨⟨_, Tryz.underlying118, rfl⟩, by kernel_rfl⟩
theorem qAdd_made {q : QuP} {d d2 : Dsk} {j : JobP} {em : Int} (h1 : ¬ 1099511627776 < q.next) (h2 : bytesE (freshJ q j) = 0) (h3 : sMake (nameQ q.next) (bytesL (freshJ q j)) d = (d2, em)) :
  qAdd q d j = if em ≠ 0 then ((q, d2), 0, em) else ((addedQ q j, sweepA q (addedQ q j).jobs d2), q.next, 0) := by
 unfold qAdd
 rw [if_neg h1, if_neg (by simp [h2]), h3]
section
variable {A S0 : Nat → Prop} {w0 w : World} {gd g n k : Nat} {d : Dsk} {q : QuP}
set_option maxRecDepth 100000 in
set_option maxHeartbeats 8000000 in
theorem add_any (h : QAt A S0 w0 w gd d k g n q) (hk : k ≤ 80000) (hn : n < 900000) (hnx : 1 ≤ q.next ∧ q.next ≤ 1099511627777) (hlx : 0 ≤ q.last ∧ q.last ≤ 1099511627777) (j : JobP) (vt vs vb : Value) (hj : JobAt w j vt vs vb) (hsh : Short j) :
  Calls Tryz.prog 20 #[.pointer (some ⟨g, 0, none⟩), .agg (jobA j vt vs vb)] w fun e w' => e = .returned (.tuple #[.int .i64 (qAdd q d j).2.1, .int .i64 (qAdd q d j).2.2]) ∧ QRest A S0 w0 w gd (qAdd q d j).1.2 (k + 11) g (n + 1) (qAdd q d j).1.1 w' := by
 obtain ⟨S, J, b, jv, hx⟩ := h
 obtain ⟨pt, ct, rfl, -, -⟩ := hj.tos.form
 obtain ⟨ps, cs, rfl, -, -⟩ := hj.st.form
 obtain ⟨pb, cb, rfl, -, -⟩ := hj.body.formB
 have HX0 := Lib.hid hx
 have HJ := Lib.hid hj
 have HSH := Lib.hid hsh
 have HQ := Lib.hid (show qAdd q d j = _ from rfl)
 have HK := Lib.hid (And.intro hk (And.intro hn (And.intro hnx hlx)))
 clear hx hj hsh
 by_cases hmx : 1099511627776 < q.next
 ·have hd : decide (1099511627776 < q.next) = true := decide_eq_true hmx
  have HR := Lib.hid (show qAdd q d j = ((q, d), 0, 6) from by unfold qAdd; rw [if_pos hmx])
  have HK1 := Lib.hid ((Keeps.refl w).alloc (.cells (jobA j (.slice pt j.tos.length ct) (.slice ps j.st.length cs) (.slice pb j.body.length cb)) 55))
  have c1 := ((HX0.out.keeps HK1.out)).qu.cells.2.1
  clear hmx hk hn hnx hlx
  go_enter Tryz.func20, Tryz.ntmps20
  go_wp2_with fail
  go_ret2
  rw [HR.out]
  exact ⟨rfl, ⟨_, _, _, _, (HX0.out.keeps HK1.out).more (by omega) (by omega)⟩, Mods.of_keeps HK1.out⟩
 have hd : decide (1099511627776 < q.next) = false := decide_eq_false hmx
 have HMX := Lib.hid hmx
 have HK1 := Lib.hid ((Keeps.refl w).alloc (.cells (jobA j (.slice pt j.tos.length ct) (.slice ps j.st.length cs) (.slice pb j.body.length cb)) 55))
 have HX1 := Lib.hid (HX0.out.keeps HK1.out)
 have HB1 := Lib.hid (Blk.new w 55 (jobA j (.slice pt j.tos.length ct) (.slice ps j.st.length cs) (.slice pb j.body.length cb)) rfl)
 have HJ1 := Lib.hid (HJ.out.keeps HK1.out)
 have c1 := HX1.out.qu.cells.2.1
 clear hmx hk hn hnx hlx HJ
 go_enter Tryz.func20, Tryz.ntmps20
 go_upto_region 3 with fail
 generalize World.alloc w _ = w1 at *
 obtain ⟨bj, hbj⟩ : ∃ z, w.heap.size = z := ⟨_, rfl⟩
 have HBJ := Lib.hid hbj
 rw [hbj] at HB1 ⊢
 clear hbj c1 hd
 have HCL := Lib.hid (clone_any w1 j _ _ _ HJ1.out HSH.out.2.2.2.1 HSH.out.2.2.2.2.1 HSH.out.2.2.2.2.2)
 go_upto_region 4 with (first | refine wpList_ld rfl jobM HB1.out _ rfl rfl ?_ | (refine HCL.out.mono ?_; rintro e w2 ⟨ut, us, ub, rfl, ho2, hk2⟩; obtain ⟨qt, et, rfl, -, -⟩ := ownsRow_form ho2.1; obtain ⟨qs, es, rfl, -, -⟩ := ownsRow_form ho2.2.1; obtain ⟨qb, eb, rfl, -, -⟩ := ho2.2.2.form; rw [List.length_map] at ho2 ⊢; have HO2 := Lib.hid ho2; have HK2 := Lib.hid hk2; clear ho2 hk2) | (refine wpList_st (ds := jobA j (.slice qt j.tos.length et) (.slice qs j.st.length es) (.slice qb j.body.length eb)) rfl jobM (HB1.out.keeps HK2.out) rfl (by simp [Value.oneCell']) _ _ rfl rfl rfl rfl ?_; intro w3 hB3 hM3; have HB3 := Lib.hid hB3; have HM3 := Lib.hid hM3; clear hB3 hM3))
 have c2 := (HX1.out.keeps HK2.out).qu.cells.2.1
 have HG := Lib.hid (show bj ≠ g from by have := HX0.out.qu.blk.lt; have := HBJ.out; omega)
 have c2 : w3.cell? ⟨g, 1, none⟩ = some (.int .i64 q.next) := HM3.out.cell c2 (fun e => HG.out e.symm)
 have b0 : w3.cell? ⟨bj, 0, none⟩ = some (.int .i64 j.id) := by rw [HB3.out.cell]; rfl
 have f0 : w3.frozen? ⟨bj, 0, none⟩ = false := HB3.out.frozen 0
 have HB4 := Lib.hid (HB3.out.set_ 0 (.int .i64 q.next))
 have b5 : (w3.setCell ⟨bj, 0, none⟩ (.int .i64 q.next)).cell? ⟨bj, 5, none⟩ = some (.slice qs j.st.length es) := by rw [HB4.out.cell]; rfl
 have f5 : (w3.setCell ⟨bj, 0, none⟩ (.int .i64 q.next)).frozen? ⟨bj, 5, none⟩ = false := HB4.out.frozen 5
 have HRD := Lib.hid (show RdSt w ((w3.setCell ⟨bj, 0, none⟩ (.int .i64 q.next)).setCell ⟨bj, 5, none⟩ (.slice none 0 0)) bj w.heap.size q.next j.arr j.fl j.fd (.slice qt j.tos.length et) j.tos (.slice none 0 0) [] (.slice qb j.body.length eb) j.body (.slice none 0 0) [] from
  rd_of HO2.out HK1.out.size (HB1.out.keeps HK2.out) ((HM3.out.setCell (p := ⟨bj, 0, none⟩) (fun _ => rfl) _).setCell (p := ⟨bj, 5, none⟩) (fun _ => rfl) _) (HB4.out.set_ 5 _) (HK1.out.trans HK2.out) (by rw [HBJ.out]; exact Nat.le_refl _) rfl)
 go_upto_region 5 with fail
 generalize World.setCell (World.setCell w3 _ _) _ _ = w5 at *
 clear c2 b0 f0 b5 f5 HB4 HB3 HM3 HO2 HK2 HCL HJ1 HX1 HB1 HK1
 have c4 : w5.cell? ⟨bj, 4, none⟩ = some (.slice qt j.tos.length et) := by rw [HRD.out.job.cell]; rfl
 obtain ⟨id, hid0⟩ : ∃ z, q.next = z := ⟨_, rfl⟩
 have HID := Lib.hid hid0
 rw [hid0] at HRD
 clear hid0
 go_wp2_with fail
 clear c4
 go_loopw [26] (fun iv wr => ∃ (i : Nat) (vs : Value), iv = .int .i64 (i : Int) ∧ i ≤ j.tos.length ∧ Hid (RdSt w wr bj w.heap.size id j.arr j.fl j.fd (.slice qt j.tos.length et) j.tos vs (List.replicate i (freshS j.arr)) (.slice qb j.body.length eb) j.body (.slice none 0 0) [])) (fun iv _ => j.tos.length - (RowKit.intOf iv).toNat)
 case atStart => exact ⟨0, _, rfl, Nat.zero_le _, HRD⟩
 case round =>
  obtain ⟨i, vs, rfl, hi, HD⟩ := hrel
  by_cases hlt : i < j.tos.length
  ·have hw : IntKind.i64.wrap ((i : Int) + 1) = (i : Int) + 1 := IntWalk.i64_in _ (by have := HSH.out.2.2.2.1; omega)
   have hd1 : decide ((i : Int) < (j.tos.length : Int)) = true := decide_eq_true (by omega)
   obtain ⟨St, hS⟩ : ∃ S, List.replicate i (freshS j.arr) = S := ⟨_, rfl⟩
   have HSN := Lib.hid (show List.replicate (i + 1) (freshS j.arr) = St ++ [freshS j.arr] from by rw [← hS, List.replicate_succ'])
   have hsl : St.length ≤ 1000000 := by rw [← hS, List.length_replicate]; have := HSH.out.2.2.2.1; omega
   rw [hS] at HD
   clear hS
   obtain ⟨qv, cv, rfl, -, -⟩ := ownsRow_form HD.out.sts
   go_upto_block 1 with fail
   go_cut [35] (fun _ wx => ∃ vs' : Value, Hid (RdSt w wx bj w.heap.size id j.arr j.fl j.fd (.slice qt j.tos.length et) j.tos vs' (St ++ [freshS j.arr]) (.slice qb j.body.length eb) j.body (.slice none 0 0) []))
   case first =>
    have HD0 := Lib.hid (HD.out.kept ((Keeps.refl wr).drew))
    have j1 : wr.cell? ⟨bj, 1, none⟩ = some (.int .i64 j.arr) := by rw [HD.out.job.cell]; rfl
    go_wp2_with fail
    refine wp_region_noPanic ?_
    refine wp_region_held_drew (S := fun w' => HB2 (fun x => x = bj ∨ (Value.slice qv St.length cv).ownBlock = some x) bj (.int .i64 j.arr) wr w') (by kernel_rfl) ((⟨(Mods.refl (fun x => x = bj ∨ (Value.slice qv St.length cv).ownBlock = some x) wr).drew, j1⟩ : HB2 (fun x => x = bj ∨ (Value.slice qv St.length cv).ownBlock = some x) bj (.int .i64 j.arr) wr wr.drew)) (fun _ => ?_)
    have hHeld : HB2 (fun x => x = bj ∨ (Value.slice qv St.length cv).ownBlock = some x) bj (.int .i64 j.arr) wr (wr).drew := (⟨(Mods.refl (fun x => x = bj ∨ (Value.slice qv St.length cv).ownBlock = some x) wr).drew, j1⟩ : HB2 (fun x => x = bj ∨ (Value.slice qv St.length cv).ownBlock = some x) bj (.int .i64 j.arr) wr wr.drew)
    generalize World.drew wr = xs at *
    refine tq 0 28 ?_
    refine tq 2 30 ?_
    refine tq 3 31 ?_ (hy := fun w' hSw => by
     have hSw : HB2 (fun x => x = bj ∨ (Value.slice qv St.length cv).ownBlock = some x) bj (.int .i64 j.arr) wr w' := hSw
     have hx := hSw.2
     clear hSw
     go_simp
     try with_reducible rfl)
    refine wpAnyH_ready (rs := [1, 4]) (by kernel_rfl) (by simp) ?_
    refine AllReadyH.cons (o := _) rfl (fun K hK => ?_) ?_
    ·have hx : World.cell? xs ⟨bj, 5, none⟩ = some (.slice qv St.length cv) := by rw [HD0.out.job.cell]; rfl
     go_simp
     clear hx
     have hb := hHeld
     refine bkm hK hb ?_
     clear hK K hHeld
     have hHeld : HB2 (fun x => x = bj ∨ (Value.slice qv St.length cv).ownBlock = some x) bj (.int .i64 j.arr) wr xs := hb
     clear hb
     refine rd1 4 (fun K hK => ?_)
     go_simp
     refine (fresh_any _ _).mono ?_
     rintro e z4 ⟨rfl, hk⟩
     have HD4 := Lib.hid (HD0.out.kept hk)
     have hb : HB2 (fun x => x = bj ∨ (Value.slice qv St.length cv).ownBlock = some x) bj (.int .i64 j.arr) wr z4 := ⟨hHeld.1.then hk, keep1 hk hHeld.2⟩
     clear hk
     go_wp2_with fail
     refine bkm hK hb ?_
     clear hK K hHeld
     have hHeld : HB2 (fun x => x = bj ∨ (Value.slice qv St.length cv).ownBlock = some x) bj (.int .i64 j.arr) wr z4 := hb
     clear hb
     refine rd1 5 (fun K hK => ?_)
     go_simp
     obtain ⟨b5, hb5⟩ : ∃ z, z = (World.heap z4).size := ⟨_, rfl⟩
     have HB5 := Lib.hid (show Blk (World.alloc z4 (.cells #[.int .i64 0, .int .i64 0, .int .i64 j.arr, .int .i64 0] 57)) b5 57 #[.int .i64 0, .int .i64 0, .int .i64 j.arr, .int .i64 0] from Blk.new _ _ _ hb5)
     have HD5 := Lib.hid (HD4.out.kept ((Keeps.refl _).alloc (.cells #[.int .i64 0, .int .i64 0, .int .i64 j.arr, .int .i64 0] 57)))
     have hb : HB2 (fun x => x = bj ∨ (Value.slice qv St.length cv).ownBlock = some x) bj (.int .i64 j.arr) wr (World.alloc z4 (.cells #[.int .i64 0, .int .i64 0, .int .i64 j.arr, .int .i64 0] 57)) := ⟨hHeld.1.alloc _, keep1 ((Keeps.refl _).alloc _) hHeld.2⟩
     have HBB := Lib.hid hb5
     clear hb5
     generalize World.alloc z4 (.cells #[.int .i64 0, .int .i64 0, .int .i64 j.arr, .int .i64 0] 57) = x5 at *
     refine bkm hK hb ?_
     clear hK K hHeld
     have hHeld : HB2 (fun x => x = bj ∨ (Value.slice qv St.length cv).ownBlock = some x) bj (.int .i64 j.arr) wr x5 := hb
     clear hb
     refine rd1 6 (fun K hK => ?_)
     refine step_appG (base := w.heap.size) stok (by decide) rfl _ _ rfl (Value.slice qv St.length cv) St.length 1 1 ⟨b5, 0, none⟩ (St.flatMap stC) [.int .i64 0, .int .i64 0, .int .i64 j.arr, .int .i64 0] rfl (congrArg (fun g => Value.slice (some ⟨g, 0, none⟩) 1 1) HBB.out.symm) HD5.out.sts rfl (fun k y hy => by rw [Go.WideShapes.add_plain, HB5.out.cell, Nat.zero_add]; simpa using hy) (by simp [Value.oneCell']) (by omega) (by decide) HD5.out.keeps.size ?_
     intro v6 x6 ho6 hg6 hf6
     obtain ⟨p6, c6, rfl, -, -⟩ := Frm.ownsRow_form ho6
     have HJ6 := Lib.hid (HD5.out.job.grown hg6 (ownsRow_ne HD5.out.sts HD5.out.job (by decide)))
     have HD6 := Lib.hid (HD5.out.grown (x := freshS j.arr) (Keeps.refl _) hg6 ho6)
     have hb : HB2 (fun x => x = bj ∨ (Value.slice qv St.length cv).ownBlock = some x) bj (.int .i64 j.arr) wr x6 := ⟨hHeld.1.grown hg6 (fun k hk _ => .inr hk), by rw [HJ6.out.cell]; rfl⟩
     clear ho6 hg6 hf6 HB5
     show K (Act.put _ (some 34) _) x6
     refine bkm hK hb ?_
     clear hK K hHeld
     have hHeld : HB2 (fun x => x = bj ∨ (Value.slice qv St.length cv).ownBlock = some x) bj (.int .i64 j.arr) wr x6 := hb
     clear hb
     refine tq 7 35 ?_
     refine rd1 8 (fun K hK => ?_)
     have hx : World.cell? x6 ⟨bj, 5, none⟩ = some (.slice qv St.length cv) := by rw [HJ6.out.cell]; rfl
     have hz : World.frozen? x6 ⟨bj, 5, none⟩ = false := HJ6.out.frozen 5
     go_simp
     have hb : HB2 (fun x => x = bj ∨ (Value.slice qv St.length cv).ownBlock = some x) bj (.int .i64 j.arr) wr (World.setCell x6 ⟨bj, 5, none⟩ (.slice p6 (St.length + 1) c6)) := ⟨hHeld.1.setCell (p := ⟨bj, 5, none⟩) (fun _ => .inl rfl) _, by rw [HD6.out.job.cell]; rfl⟩
     clear hx hz
     generalize World.setCell x6 ⟨bj, 5, none⟩ (.slice p6 (St.length + 1) c6) = xF at *
     refine bkm hK hb ?_
     clear hK K hHeld
     have hHeld : HB2 (fun x => x = bj ∨ (Value.slice qv St.length cv).ownBlock = some x) bj (.int .i64 j.arr) wr xF := hb
     clear hb
     refine wpAnyH_done (by kernel_rfl) ?_ _
     refine NoPanic.normal ?_
     go_wp2_with fail
     go_meet
     exact ⟨_, HD6⟩
    refine AllReadyH.cons (o := _) rfl (fun K hK => ?_) ?_
    ·go_simp
     refine (fresh_any _ _).mono ?_
     rintro e z4 ⟨rfl, hk⟩
     have HD4 := Lib.hid (HD0.out.kept hk)
     have hb : HB2 (fun x => x = bj ∨ (Value.slice qv St.length cv).ownBlock = some x) bj (.int .i64 j.arr) wr z4 := ⟨hHeld.1.then hk, keep1 hk hHeld.2⟩
     clear hk
     go_wp2_with fail
     refine bkm hK hb ?_
     clear hK K hHeld
     have hHeld : HB2 (fun x => x = bj ∨ (Value.slice qv St.length cv).ownBlock = some x) bj (.int .i64 j.arr) wr z4 := hb
     clear hb
     refine wpAnyH_ready (rs := [1, 5]) (by kernel_rfl) (by simp) ?_
     refine AllReadyH.cons (o := _) rfl (fun K hK => ?_) ?_
     ·have hx : World.cell? z4 ⟨bj, 5, none⟩ = some (.slice qv St.length cv) := by rw [HD4.out.job.cell]; rfl
      go_simp
      clear hx
      have hb := hHeld
      refine bkm hK hb ?_
      clear hK K hHeld
      have hHeld : HB2 (fun x => x = bj ∨ (Value.slice qv St.length cv).ownBlock = some x) bj (.int .i64 j.arr) wr z4 := hb
      clear hb
      refine rd1 5 (fun K hK => ?_)
      go_simp
      obtain ⟨b5, hb5⟩ : ∃ z, z = (World.heap z4).size := ⟨_, rfl⟩
      have HB5 := Lib.hid (show Blk (World.alloc z4 (.cells #[.int .i64 0, .int .i64 0, .int .i64 j.arr, .int .i64 0] 57)) b5 57 #[.int .i64 0, .int .i64 0, .int .i64 j.arr, .int .i64 0] from Blk.new _ _ _ hb5)
      have HD5 := Lib.hid (HD4.out.kept ((Keeps.refl _).alloc (.cells #[.int .i64 0, .int .i64 0, .int .i64 j.arr, .int .i64 0] 57)))
      have hb : HB2 (fun x => x = bj ∨ (Value.slice qv St.length cv).ownBlock = some x) bj (.int .i64 j.arr) wr (World.alloc z4 (.cells #[.int .i64 0, .int .i64 0, .int .i64 j.arr, .int .i64 0] 57)) := ⟨hHeld.1.alloc _, keep1 ((Keeps.refl _).alloc _) hHeld.2⟩
      have HBB := Lib.hid hb5
      clear hb5
      generalize World.alloc z4 (.cells #[.int .i64 0, .int .i64 0, .int .i64 j.arr, .int .i64 0] 57) = x5 at *
      refine bkm hK hb ?_
      clear hK K hHeld
      have hHeld : HB2 (fun x => x = bj ∨ (Value.slice qv St.length cv).ownBlock = some x) bj (.int .i64 j.arr) wr x5 := hb
      clear hb
      refine rd1 6 (fun K hK => ?_)
      refine step_appG (base := w.heap.size) stok (by decide) rfl _ _ rfl (Value.slice qv St.length cv) St.length 1 1 ⟨b5, 0, none⟩ (St.flatMap stC) [.int .i64 0, .int .i64 0, .int .i64 j.arr, .int .i64 0] rfl (congrArg (fun g => Value.slice (some ⟨g, 0, none⟩) 1 1) HBB.out.symm) HD5.out.sts rfl (fun k y hy => by rw [Go.WideShapes.add_plain, HB5.out.cell, Nat.zero_add]; simpa using hy) (by simp [Value.oneCell']) (by omega) (by decide) HD5.out.keeps.size ?_
      intro v6 x6 ho6 hg6 hf6
      obtain ⟨p6, c6, rfl, -, -⟩ := Frm.ownsRow_form ho6
      have HJ6 := Lib.hid (HD5.out.job.grown hg6 (ownsRow_ne HD5.out.sts HD5.out.job (by decide)))
      have HD6 := Lib.hid (HD5.out.grown (x := freshS j.arr) (Keeps.refl _) hg6 ho6)
      have hb : HB2 (fun x => x = bj ∨ (Value.slice qv St.length cv).ownBlock = some x) bj (.int .i64 j.arr) wr x6 := ⟨hHeld.1.grown hg6 (fun k hk _ => .inr hk), by rw [HJ6.out.cell]; rfl⟩
      clear ho6 hg6 hf6 HB5
      show K (Act.put _ (some 34) _) x6
      refine bkm hK hb ?_
      clear hK K hHeld
      have hHeld : HB2 (fun x => x = bj ∨ (Value.slice qv St.length cv).ownBlock = some x) bj (.int .i64 j.arr) wr x6 := hb
      clear hb
      refine tq 7 35 ?_
      refine rd1 8 (fun K hK => ?_)
      have hx : World.cell? x6 ⟨bj, 5, none⟩ = some (.slice qv St.length cv) := by rw [HJ6.out.cell]; rfl
      have hz : World.frozen? x6 ⟨bj, 5, none⟩ = false := HJ6.out.frozen 5
      go_simp
      have hb : HB2 (fun x => x = bj ∨ (Value.slice qv St.length cv).ownBlock = some x) bj (.int .i64 j.arr) wr (World.setCell x6 ⟨bj, 5, none⟩ (.slice p6 (St.length + 1) c6)) := ⟨hHeld.1.setCell (p := ⟨bj, 5, none⟩) (fun _ => .inl rfl) _, by rw [HD6.out.job.cell]; rfl⟩
      clear hx hz
      generalize World.setCell x6 ⟨bj, 5, none⟩ (.slice p6 (St.length + 1) c6) = xF at *
      refine bkm hK hb ?_
      clear hK K hHeld
      have hHeld : HB2 (fun x => x = bj ∨ (Value.slice qv St.length cv).ownBlock = some x) bj (.int .i64 j.arr) wr xF := hb
      clear hb
      refine wpAnyH_done (by kernel_rfl) ?_ _
      refine NoPanic.normal ?_
      go_wp2_with fail
      go_meet
      exact ⟨_, HD6⟩
     refine AllReadyH.cons (o := _) rfl (fun K hK => ?_) ?_
     ·go_simp
      obtain ⟨b5, hb5⟩ : ∃ z, z = (World.heap z4).size := ⟨_, rfl⟩
      have HB5 := Lib.hid (show Blk (World.alloc z4 (.cells #[.int .i64 0, .int .i64 0, .int .i64 j.arr, .int .i64 0] 57)) b5 57 #[.int .i64 0, .int .i64 0, .int .i64 j.arr, .int .i64 0] from Blk.new _ _ _ hb5)
      have HD5 := Lib.hid (HD4.out.kept ((Keeps.refl _).alloc (.cells #[.int .i64 0, .int .i64 0, .int .i64 j.arr, .int .i64 0] 57)))
      have hb : HB2 (fun x => x = bj ∨ (Value.slice qv St.length cv).ownBlock = some x) bj (.int .i64 j.arr) wr (World.alloc z4 (.cells #[.int .i64 0, .int .i64 0, .int .i64 j.arr, .int .i64 0] 57)) := ⟨hHeld.1.alloc _, keep1 ((Keeps.refl _).alloc _) hHeld.2⟩
      have HBB := Lib.hid hb5
      clear hb5
      generalize World.alloc z4 (.cells #[.int .i64 0, .int .i64 0, .int .i64 j.arr, .int .i64 0] 57) = x5 at *
      refine bkm hK hb ?_
      clear hK K hHeld
      have hHeld : HB2 (fun x => x = bj ∨ (Value.slice qv St.length cv).ownBlock = some x) bj (.int .i64 j.arr) wr x5 := hb
      clear hb
      refine rd1 1 (fun K hK => ?_)
      have hx : World.cell? x5 ⟨bj, 5, none⟩ = some (.slice qv St.length cv) := by rw [HD5.out.job.cell]; rfl
      go_simp
      clear hx
      have hb := hHeld
      refine bkm hK hb ?_
      clear hK K hHeld
      have hHeld : HB2 (fun x => x = bj ∨ (Value.slice qv St.length cv).ownBlock = some x) bj (.int .i64 j.arr) wr x5 := hb
      clear hb
      refine rd1 6 (fun K hK => ?_)
      refine step_appG (base := w.heap.size) stok (by decide) rfl _ _ rfl (Value.slice qv St.length cv) St.length 1 1 ⟨b5, 0, none⟩ (St.flatMap stC) [.int .i64 0, .int .i64 0, .int .i64 j.arr, .int .i64 0] rfl (congrArg (fun g => Value.slice (some ⟨g, 0, none⟩) 1 1) HBB.out.symm) HD5.out.sts rfl (fun k y hy => by rw [Go.WideShapes.add_plain, HB5.out.cell, Nat.zero_add]; simpa using hy) (by simp [Value.oneCell']) (by omega) (by decide) HD5.out.keeps.size ?_
      intro v6 x6 ho6 hg6 hf6
      obtain ⟨p6, c6, rfl, -, -⟩ := Frm.ownsRow_form ho6
      have HJ6 := Lib.hid (HD5.out.job.grown hg6 (ownsRow_ne HD5.out.sts HD5.out.job (by decide)))
      have HD6 := Lib.hid (HD5.out.grown (x := freshS j.arr) (Keeps.refl _) hg6 ho6)
      have hb : HB2 (fun x => x = bj ∨ (Value.slice qv St.length cv).ownBlock = some x) bj (.int .i64 j.arr) wr x6 := ⟨hHeld.1.grown hg6 (fun k hk _ => .inr hk), by rw [HJ6.out.cell]; rfl⟩
      clear ho6 hg6 hf6 HB5
      show K (Act.put _ (some 34) _) x6
      refine bkm hK hb ?_
      clear hK K hHeld
      have hHeld : HB2 (fun x => x = bj ∨ (Value.slice qv St.length cv).ownBlock = some x) bj (.int .i64 j.arr) wr x6 := hb
      clear hb
      refine tq 7 35 ?_
      refine rd1 8 (fun K hK => ?_)
      have hx : World.cell? x6 ⟨bj, 5, none⟩ = some (.slice qv St.length cv) := by rw [HJ6.out.cell]; rfl
      have hz : World.frozen? x6 ⟨bj, 5, none⟩ = false := HJ6.out.frozen 5
      go_simp
      have hb : HB2 (fun x => x = bj ∨ (Value.slice qv St.length cv).ownBlock = some x) bj (.int .i64 j.arr) wr (World.setCell x6 ⟨bj, 5, none⟩ (.slice p6 (St.length + 1) c6)) := ⟨hHeld.1.setCell (p := ⟨bj, 5, none⟩) (fun _ => .inl rfl) _, by rw [HD6.out.job.cell]; rfl⟩
      clear hx hz
      generalize World.setCell x6 ⟨bj, 5, none⟩ (.slice p6 (St.length + 1) c6) = xF at *
      refine bkm hK hb ?_
      clear hK K hHeld
      have hHeld : HB2 (fun x => x = bj ∨ (Value.slice qv St.length cv).ownBlock = some x) bj (.int .i64 j.arr) wr xF := hb
      clear hb
      refine wpAnyH_done (by kernel_rfl) ?_ _
      refine NoPanic.normal ?_
      go_wp2_with fail
      go_meet
      exact ⟨_, HD6⟩
     exact AllReadyH.nil
    exact AllReadyH.nil
   case rest =>
   obtain ⟨vs', HD2⟩ := hcut
   have HD3 := Lib.hid (show RdSt w wc bj w.heap.size id j.arr j.fl j.fd (.slice qt j.tos.length et) j.tos vs' (List.replicate (i + 1) (freshS j.arr)) (.slice qb j.body.length eb) j.body (.slice none 0 0) [] from by rw [HSN.out]; exact HD2.out)
   clear HD2 HSN
   go_wp2_with fail
   go_roundw
   case rel => exact ⟨i + 1, vs', by simp, by omega, HD3⟩
   case measure =>
    simp only [RowKit.intOf]
    omega
  ·have hie : i = j.tos.length := by omega
   subst hie
   have hd1 : decide ((j.tos.length : Int) < (j.tos.length : Int)) = false := decide_eq_false (by omega)
   generalize hS0 : List.replicate j.tos.length (freshS j.arr) = S0' at *
   have HSL := Lib.hid (show S0'.length = j.tos.length ∧ S0' = List.replicate j.tos.length (freshS j.arr) from by rw [← hS0, List.length_replicate]; exact ⟨rfl, rfl⟩)
   clear hS0 hlt hi
   obtain ⟨qv, cv, hvs, -, -⟩ := ownsRow_form HD.out.sts
   rw [HSL.out.1] at hvs
   subst hvs
   have HJF := Lib.hid (show (⟨id, j.arr, j.fl, j.fd, j.tos, S0', j.body⟩ : JobP) = freshJ q j from by rw [HSL.out.2, ← HID.out]; rfl)
   have HOW := Lib.hid (show JobOwn wr w.heap.size ⟨id, j.arr, j.fl, j.fd, j.tos, S0', j.body⟩ (.slice qt j.tos.length et) (.slice qv j.tos.length cv) (.slice qb j.body.length eb) from ⟨HD.out.tos, HD.out.sts, HD.out.bd⟩)
   have HBY := Lib.hid (Env.bytes_any wr _ _ _ _ (JobOwn.at_ HOW.out) (show Short ⟨id, j.arr, j.fl, j.fd, j.tos, S0', j.body⟩ from ⟨HSH.out.1, HSH.out.2.1, HSH.out.2.2.1, HSH.out.2.2.2.1, by rw [HSL.out.1]; exact HSH.out.2.2.2.1, HSH.out.2.2.2.2.2⟩))
   have HLE := Lib.hid (bytesL_le (j := ⟨id, j.arr, j.fl, j.fd, j.tos, S0', j.body⟩))
   have HQB := Lib.hid (show bytesE (freshJ q j) = bytesE ⟨id, j.arr, j.fl, j.fd, j.tos, S0', j.body⟩ ∧ bytesL (freshJ q j) = bytesL ⟨id, j.arr, j.fl, j.fd, j.tos, S0', j.body⟩ from by rw [HJF.out]; exact ⟨rfl, rfl⟩)
   generalize bytesE ⟨id, j.arr, j.fl, j.fd, j.tos, S0', j.body⟩ = er at *
   generalize bytesL ⟨id, j.arr, j.fl, j.fd, j.tos, S0', j.body⟩ = BL at *
   have HBK := Lib.hid HD.out.job
   have HKR := Lib.hid HD.out.keeps
   clear HD HRD
   go_wp2_with (first | refine wpList_ld rfl jobM HBK.out _ rfl rfl ?_ | fail)
   unfold RetSI at HBY
   refine HBY.out.mono ?_
   rintro e w6 ⟨bv, rfl, ho6, hk6⟩
   obtain ⟨p6, c6, rfl, -, -⟩ := ownsRow_form ho6
   rw [List.length_map] at ho6 ⊢
   have HKW := Lib.hid (HKR.out.trans hk6)
   have HX6 := Lib.hid (HX0.out.jobs HKW.out)
   have HO6 := Lib.hid (JobOwn.keeps HOW.out hk6)
   have HST := Lib.hid (show Stays S w6 (.slice p6 BL.length c6) (BL.map u8v) from fun w9 hm => by
    have hb := HKR.out.size
    have h9 : Own w9 wr.heap.size 5 (.slice p6 BL.length c6) (BL.map u8v) := ownsRow_mods (w := w6) (show Own w6 wr.heap.size 5 (.slice p6 BL.length c6) (BL.map u8v) from ho6) hm (fun y hy hs => (HX6.out.dx.lt y hs).2.1 (.inr ⟨Nat.le_trans hb (ownsRow_base ho6 y hy), own_lt3 ho6 hy⟩))
    exact h9.row)
   have HB6 := Lib.hid (HBK.out.keeps hk6)
   have HNB := Lib.hid (show ¬ S bj from fun hs => (HX6.out.dx.lt bj hs).2.1 (.inr ⟨by rw [HBJ.out]; exact Nat.le_refl _, HB6.out.lt⟩))
   obtain ⟨J6, hJ6⟩ : ∃ z, MoreJ J w w6 = z := ⟨_, rfl⟩
   have HJS := Lib.hid (show ∀ y, w.heap.size ≤ y → y < w6.heap.size → J6 y from fun y h1 h2 => by rw [← hJ6]; exact .inr ⟨h1, h2⟩)
   rw [hJ6] at HX6
   have HBJ6 := Lib.hid (HJS.out bj (by rw [HBJ.out]; exact Nat.le_refl _) HB6.out.lt)
   clear hk6 ho6 HBY HBK HOW HKR hJ6
   by_cases he : er = 0
   ·subst he
    have HQL := Lib.hid (show bytesE (freshJ q j) = 0 from HQB.out.1)
    have c0 := HX6.out.qu.cells.1
    have b0 : w6.cell? ⟨bj, 0, none⟩ = some (.int .i64 id) := by rw [HB6.out.cell]; rfl
    have HGS := Lib.hid HX6.out.gs.1
    obtain ⟨⟨d2, em⟩, hmk⟩ : ∃ z, sMake (nameQ id) BL d = z := ⟨_, rfl⟩
    have HMK := Lib.hid (show sMake (nameQ q.next) (bytesL (freshJ q j)) d = (d2, em) from by rw [HQB.out.2, HID.out]; exact hmk)
    have HMK2 := Lib.hid hmk
    clear hmk
    go_wp2_with fail
    have HKD := Lib.hid (Keeps.refl w6).drew
    refine wp_region_noPanic ?_
    refine wp_region_held_drew (S := fun w' => Mods S w6 w') (by kernel_rfl) ((Mods.refl S w6).drew) (fun _ => ?_)
    have hHeld : Mods S w6 (w6).drew := (Mods.refl S w6).drew
    generalize World.drew w6 = xs at *
    refine tq 0 44 ?_
    refine tq 1 45 ?_
    refine tq 2 46 ?_
    refine tq 3 47 ?_ (hy := fun w' hSw => by
     have hSw : Mods S w6 w' := hSw
     have hx := hSw.cell c0 HGS.out
     clear hSw
     go_simp
     try with_reducible rfl)
    refine tq 4 48 ?_
    refine tq 5 49 ?_ (hy := fun w' hSw => by
     have hSw : Mods S w6 w' := hSw
     have hx := hSw.cell b0 HNB.out
     clear hSw
     go_simp
     try with_reducible rfl)
    refine tq 7 51 ?_
    refine rd1 6 (fun K hK => ?_)
    go_simp
    refine (name_any _ _).mono ?_
    rintro e x6 ⟨rfl, hk⟩
    have HKN := Lib.hid (HKD.out.trans hk)
    have hb := hHeld.then hk
    clear hk
    go_wp2_with fail
    refine bkm hK hb ?_
    clear hK K hHeld
    have hHeld : Mods S w6 x6 := hb
    clear hb
    refine rd1 8 (fun K hK => ?_)
    go_simp
    refine (make_at HX6.out (by have := HK.out.1; omega) HKN.out HST.out (by have := HLE.out; omega) id).mono ?_
    rintro e x8 ⟨c, rfl, hc, hq, hb⟩
    rw [HMK2.out] at hc hq
    obtain rfl : c = em := hc
    have HX8 := Lib.hid hq
    clear hq
    have HM8 := Lib.hid hb
    go_wp2_with fail
    refine bkm hK hb ?_
    clear hK K hHeld
    have hHeld : Mods S w6 x8 := hb
    clear hb
    refine tq 9 7 ?_
    refine wpAnyH_done (by kernel_rfl) ?_ _
    refine NoPanic.normal ?_
    have HD2 := Lib.hid (qAdd_made (q := q) (d := d) (j := j) (by have := HMX.out; omega) HQL.out HMK.out)
    have HJ8 := Lib.hid (show JobJ x8 J6 ⟨id, j.arr, j.fl, j.fd, j.tos, S0', j.body⟩ (.slice qt j.tos.length et) (.slice qv j.tos.length cv) (.slice qb j.body.length eb) from (JobOwn.stay HO6.out HJS.out).mods HM8.out (fun y hy => (HX6.out.dx.lt y hy).2.1))
    have HB8 := Lib.hid (HB6.out.mods HM8.out HNB.out)
    have HMW := Lib.hid (show Mods (fun y => ¬ A y ∧ (S0 y ∨ w0.heap.size ≤ y)) w x8 from (Mods.of_keeps HKW.out).trans (HM8.out.mono (fun y hy => HX6.out.free hy)) (fun y hy _ => hy))
    have HNG := Lib.hid (show bj ≠ g ∧ bj ≠ b from by have h1 := HX0.out.qu.blk.lt; have h2 := HX0.out.qu.map.lt; have := HBJ.out; omega)
    clear HX6 HO6 HJS HKW HX0 HST HM8 HB6 HMK HMK2 HQL HQB hHeld HKN HSH HKD c0 b0
    have HGL := Lib.hid (show ∀ y, y = g ∨ y = b → ¬ A y ∧ (S0 y ∨ w0.heap.size ≤ y) from fun y hy => HX8.out.freeG hy)
    obtain ⟨S8, hS8⟩ : ∃ z, More S x6 x8 = z := ⟨_, rfl⟩
    rw [hS8] at HX8
    clear hS8
    by_cases hc : c = 0
    ·subst hc
     have HDR := Lib.hid (show qAdd q d j = ((addedQ q j, sweepA q (addedQ q j).jobs d2), q.next, 0) from by rw [HD2.out, if_neg (by simp)])
     obtain ⟨e, hke⟩ : ∃ z : KpX, (⟨⟨id, j.arr, j.fl, j.fd, j.tos, S0', j.body⟩, ⟨id, j.arr, j.fl, j.fd, ⟨qt, j.tos.length, et⟩, ⟨qv, j.tos.length, cv⟩, ⟨qb, j.body.length, eb⟩, true⟩⟩ : KpX) = z := ⟨_, rfl⟩
     have HE := Lib.hid (show KpIs x8 J6 e from by rw [← hke]; exact ⟨rfl, rfl, rfl, rfl, HJ8.out⟩)
     have HEV := Lib.hid (show kpV e.v = .agg #[.int .i64 id, .int .i64 j.arr, .string (bstr j.fl), .string (bstr j.fd), .slice qt j.tos.length et, .slice qv j.tos.length cv, .slice qb j.body.length eb, .bool true] from by rw [← hke]; rfl)
     have HEP := Lib.hid (show e.p = (freshJ q j, true) from by rw [← hke, ← HJF.out]; rfl)
     clear hke HJ8 HD2
     have HWF := Lib.hid (show (Lit.int .i64 id).wf = true ∧ (Lit.int .i64 q.last).wf = true from by
      have h1 := HK.out.2.2.1
      have h2 := HK.out.2.2.2
      have h3 := HID.out
      have h4 := HMX.out
      constructor <;> simp [Lit.wf, IntKind.min, IntKind.max, IntKind.signed, IntKind.bits] <;> omega)
     have HNN := Lib.hid (show n < 1000000 from by have := HK.out.2.1; omega)
     have HGB := Lib.hid HX8.out.qu.gb
     have c2 := HX8.out.qu.cells.2.2.1
     have b0 : x8.cell? ⟨bj, 0, none⟩ = some (.int .i64 id) := by rw [HB8.out.cell]; rfl
     have HQ8 := Lib.hid (HX8.out.qu.keeps (Keeps.refl x8).drew)
     have HE8 := Lib.hid (HE.out.mods (Mods.of_keeps (S := fun _ => False) (Keeps.refl x8).drew) (fun _ h => h.elim))
     go_wp2_with fail
     refine wp_region_noPanic ?_
     refine wp_region_held_drew (S := fun w' => Mods (· = b) x8 w') (by kernel_rfl) ((Mods.refl (· = b) x8).drew) (fun _ => ?_)
     have hHeld : Mods (· = b) x8 (x8).drew := (Mods.refl (· = b) x8).drew
     generalize World.drew x8 = xs at *
     refine tq 0 56 ?_
     refine tq 1 57 ?_
     refine tq 2 58 ?_
     refine tq 3 59 ?_ (hy := fun w' hSw => by
      have hSw : Mods (· = b) x8 w' := hSw
      have hx := hSw.cell c2 (fun e => HGB.out e)
      clear hSw
      go_simp
      try with_reducible rfl)
     refine tq 4 60 ?_
     refine tq 5 61 ?_ (hy := fun w' hSw => by
      have hSw : Mods (· = b) x8 w' := hSw
      have hx := hSw.cell b0 (fun e => HNG.out.2 e)
      clear hSw
      go_simp
      try with_reducible rfl)
     refine wpAnyH_take (i := 6) (by rfl) (by kernel_rfl) (by kernel_rfl) (by kernel_rfl) (by intro _ _ _ h; exact h) (yieldsIf_ld (by kernel_rfl) jobM (fun w' hS => HB8.out.mods hS HNG.out.2) _ rfl rfl) (by assumption) ?rest21
     change wpAnyH _ _ _ _ _ _ _ (Act.put _ (some 62) _) _
     try simp only [Act.put, List.setIfInBounds_toArray, List.set_cons_zero, List.set_cons_succ]
     refine tq 7 63 ?_
     refine rd1 8 (fun K hK => ?_)
     obtain ⟨xm, hup, hqm, hmm⟩ := HQ8.out.put HNN.out HWF.out.1 HE8.out
     rw [HEV.out] at hup
     go_simp
     have hb := hHeld.trans hmm (fun y hy _ => hy)
     have HQM := Lib.hid hqm
     clear hup hqm hmm
     refine bkm hK hb ?_
     clear hK K hHeld
     have hHeld : Mods (· = b) x8 xm := hb
     clear hb
     refine wpAnyH_done (by kernel_rfl) ?_ _
     refine NoPanic.normal ?_
     have HXM := Lib.hid (HX8.out.own HQM.out hHeld (fun y hy => .inr hy))
     have HMM := Lib.hid (HMW.out.trans (hHeld.mono (fun y hy => HGL.out y (.inr hy))) (fun y hy _ => hy))
     have HBM := Lib.hid (HB8.out.mods hHeld (fun e => HNG.out.2 e))
     clear HQM HQ8 HE8 HE HEV c2 b0 HX8 HMW HB8 hHeld
     have c1 := HXM.out.qu.cells.2.1
     have g1 : xm.frozen? ⟨g, 1, none⟩ = false := HXM.out.qu.blk.frozen 1
     have hwn : IntKind.i64.wrap (q.next + 1) = q.next + 1 := IntWalk.i64_in _ (by have := HK.out.2.2.1; omega)
     have HSN := Lib.hid (HXM.out.qu.setNext (q.next + 1))
     go_upto_region 16 with fail
     generalize World.setCell xm _ _ = x9 at *
     have HX9 := Lib.hid (HXM.out.own HSN.out.1 HSN.out.2 (fun y hy => .inl hy))
     have HM9 := Lib.hid (HMM.out.trans (HSN.out.2.mono (fun y hy => HGL.out y (.inl hy))) (fun y hy _ => hy))
     have HB9 := Lib.hid (HBM.out.mods HSN.out.2 (fun e => HNG.out.1 e))
     clear c1 g1 HSN HXM HMM HBM
     have HQ9 := Lib.hid (HX9.out.qu)
     have HLK := Lib.hid (show (Mp.look (addedQ q j).jobs q.last).isSome = (Mp.look (Mp.putL jv id e) q.last).isSome from by
      show (Mp.look (Mp.putL q.jobs q.next (freshJ q j, true)) q.last).isSome = _
      rw [HID.out, ← HEP.out, look_job (q := ⟨q.next + 1, q.last, Mp.putL q.jobs id e.p⟩) HX9.out.qu.jobs, Option.isSome_map])
     have c2 := HX9.out.qu.cells.2.2.1
     have c3 := HX9.out.qu.cells.2.2.2
     have hlk := fun (w' : World) (hS : Keeps x9 w') => (HX9.out.qu.keeps hS).map.look HWF.out.2
     have HLR := Lib.hid hlk
     clear hlk
     obtain ⟨u, hu⟩ : ∃ z, ((Mp.look (Mp.putL jv id e) q.last).map (·.v)).getD zeroK = z := ⟨_, rfl⟩
     obtain ⟨wt, hwt⟩ : ∃ z, (Mp.look (Mp.putL jv id e) q.last).isSome = z := ⟨_, rfl⟩
     rw [hu, hwt] at HLR
     rw [hwt] at HLK
     unfold kpV kpA SlQ.v at HLR
     clear hu hwt
     have HSZ := Lib.hid (show x9.heap.size ≤ x9.heap.size from Nat.le_refl _)
     refine wp_region_noPanic ?_
     refine wp_region_held_drew (S := fun w' => Keeps x9 w') (by kernel_rfl) ((Keeps.refl x9).drew) (fun _ => ?_)
     have hHeld : Keeps x9 (x9).drew := (Keeps.refl x9).drew
     generalize World.drew x9 = xs at *
     refine tq 0 72 ?_
     refine tq 1 73 ?_
     refine tq 2 74 ?_
     refine tq 3 75 ?_ (hy := fun w' hSw => by
      have hSw : Keeps x9 w' := hSw
      have hx := keep1 hSw c2
      clear hSw
      go_simp
      try with_reducible rfl)
     refine tq 4 76 ?_
     refine tq 5 77 ?_
     refine tq 6 78 ?_
     refine tq 7 79 ?_ (hy := fun w' hSw => by
      have hSw : Keeps x9 w' := hSw
      have hx := keep1 hSw c3
      clear hSw
      go_simp
      try with_reducible rfl)
     refine tq 8 80 ?_ (hy := fun w' hSw => by
      have hSw : Keeps x9 w' := hSw
      have hl := HLR.out _ hSw
      clear hSw
      go_simp
      try with_reducible rfl)
     refine tq 9 71 ?_
     refine tq 10 81 ?_
     refine tq 11 82 ?_
     refine rd1 12 (fun K hK => ?_)
     go_simp
     obtain ⟨q1, hq1⟩ : ∃ z, z = (World.heap xs).size := ⟨_, rfl⟩
     have HC1 := Lib.hid (show Blk (World.alloc xs (.cells #[.int .i64 0, .int .i64 0, .string ⟨#[]⟩, .string ⟨#[]⟩, .slice none 0 0, .slice none 0 0, .slice none 0 0, .bool false] 118)) q1 118 #[.int .i64 0, .int .i64 0, .string ⟨#[]⟩, .string ⟨#[]⟩, .slice none 0 0, .slice none 0 0, .slice none 0 0, .bool false] from Blk.new _ _ _ hq1)
     have hb := hHeld.alloc (.cells #[.int .i64 0, .int .i64 0, .string ⟨#[]⟩, .string ⟨#[]⟩, .slice none 0 0, .slice none 0 0, .slice none 0 0, .bool false] 118)
     have HQ1 := Lib.hid (show x9.heap.size ≤ q1 from by rw [hq1]; exact hHeld.size)
     rw [← hq1]
     clear hq1
     generalize World.alloc xs _ = y1 at *
     refine bkm hK hb ?_
     clear hK K hHeld
     have hHeld : Keeps x9 y1 := hb
     clear hb
     refine rd1 13 (fun K hK => ?_)
     refine step_st (ds := #[.int .i64 u.id, .int .i64 u.arr, .string (bstr u.fl), .string (bstr u.fd), .slice u.s1.p u.s1.n u.s1.c, .slice u.s2.p u.s2.n u.s2.c, .slice u.s3.p u.s3.n u.s3.c, .bool u.wh]) rfl kpM HC1.out rfl (by simp [Value.oneCell']) _ _ rfl rfl rfl rfl ?_
     intro y2 hB2 hM2
     have hb := hM2.keeps hHeld (fun x hx => by rw [hx]; exact HQ1.out)
     clear hB2 hM2 HC1
     refine bkm hK hb ?_
     clear hK K hHeld
     have hHeld : Keeps x9 y2 := hb
     clear hb
     refine tq 14 9 ?_
     refine wpAnyH_done (by kernel_rfl) ?_ _
     refine NoPanic.normal ?_
     have HK9 := Lib.hid hHeld
     clear hHeld c2 c3 HLR HQ9
     have c3 := keep1 HK9.out HX9.out.qu.cells.2.2.2
     have HXY := Lib.hid (show QX A S0 w0 y2 gd d2 (k + 8) S8 J6 g b (n + 1) ⟨q.next + 1, q.last, Mp.putL q.jobs id e.p⟩ (Mp.putL jv id e) from HX9.out.keeps HK9.out)
     have HMY := Lib.hid (HM9.out.then HK9.out)
     have HBY := Lib.hid (HB9.out.keeps HK9.out)
     have HAQ := Lib.hid (show addedQ q j = ⟨q.next + 1, id, Mp.putL q.jobs id e.p⟩ from by rw [HEP.out, ← HID.out]; rfl)
     clear HX9 HM9 HB9 HK9 c3
     have c3 := HXY.out.qu.cells.2.2.2
     by_cases hdr : 0 < q.last ∧ wt = false
     ·have HSW := Lib.hid (show sweepA q (addedQ q j).jobs d2 = (sDrop (nameQ q.last) d2).1 from by unfold sweepA; rw [if_pos (by rw [HLK.out]; exact hdr)])
      obtain ⟨hl0, rfl⟩ := hdr
      have hl1 : decide (0 < q.last) = true := decide_eq_true hl0
      have c0 := HXY.out.qu.cells.1
      have HGS := Lib.hid HXY.out.gs.1
      have HKD := Lib.hid (Keeps.refl y2).drew
      clear hl0
      go_wp2_with fail
      refine wp_region_noPanic ?_
      refine wp_region_held_drew (S := fun w' => Mods S8 y2 w') (by kernel_rfl) ((Mods.refl S8 y2).drew) (fun _ => ?_)
      have hHeld : Mods S8 y2 (y2).drew := (Mods.refl S8 y2).drew
      generalize World.drew y2 = xs at *
      refine tq 0 92 ?_
      refine tq 1 93 ?_
      refine tq 2 94 ?_
      refine tq 3 95 ?_ (hy := fun w' hSw => by
       have hSw : Mods S8 y2 w' := hSw
       have hx := hSw.cell c0 HGS.out
       clear hSw
       go_simp
       try with_reducible rfl)
      refine tq 4 96 ?_
      refine tq 5 97 ?_
      refine tq 6 98 ?_
      refine tq 7 99 ?_ (hy := fun w' hSw => by
       have hSw : Mods S8 y2 w' := hSw
       have hx := hSw.cell c3 HGS.out
       clear hSw
       go_simp
       try with_reducible rfl)
      refine rd1 8 (fun K hK => ?_)
      go_simp
      refine (name_any _ _).mono ?_
      rintro e z8 ⟨rfl, hk⟩
      have HKN := Lib.hid (HKD.out.trans hk)
      have hb := hHeld.then hk
      clear hk
      go_wp2_with fail
      refine bkm hK hb ?_
      clear hK K hHeld
      have hHeld : Mods S8 y2 z8 := hb
      clear hb
      refine rd1 9 (fun K hK => ?_)
      go_simp
      refine (drop_at HXY.out (by have := HK.out.1; omega) HKN.out (x := nameQ q.last) (by have := nameQ_le q.last; omega)).mono ?_
      rintro e z9 ⟨cd, rfl, hcd, hqd, hb⟩
      have HXZ := Lib.hid hqd
      clear hqd hcd
      go_wp2_with fail
      refine bkm hK hb ?_
      clear hK K hHeld
      have hHeld : Mods S8 y2 z9 := hb
      clear hb
      refine wpAnyH_done (by kernel_rfl) ?_ _
      refine NoPanic.normal ?_
      have HMZ := Lib.hid (HMY.out.trans (hHeld.mono (fun y hy => HXY.out.free hy)) (fun y hy _ => hy))
      have HBZ := Lib.hid (HBY.out.mods hHeld (fun hs => (HXY.out.dx.lt bj hs).2.1 HBJ6.out))
      clear c0 c3 HXY HMY HBY hHeld HKN HKD
      have c3 := HXZ.out.qu.cells.2.2.2
      have g3 : z9.frozen? ⟨g, 3, none⟩ = false := HXZ.out.qu.blk.frozen 3
      have b0 : z9.cell? ⟨bj, 0, none⟩ = some (.int .i64 id) := by rw [HBZ.out.cell]; rfl
      have HSL := Lib.hid (HXZ.out.qu.setLast id)
      have b1 : (z9.setCell ⟨g, 3, none⟩ (.int .i64 id)).cell? ⟨bj, 0, none⟩ = some (.int .i64 id) := HSL.out.2.cell b0 (fun e => HNG.out.1 e)
      go_wp2_with fail
      go_ret2
      rw [HDR.out, HSW.out, HAQ.out]
      exact ⟨by rw [HID.out]; rfl, ⟨_, _, _, _, (HXZ.out.own HSL.out.1 HSL.out.2 (fun y hy => .inl hy)).more (k' := k + 11) (m := n + 1) (by omega) (Nat.le_refl _)⟩, HMZ.out.trans (HSL.out.2.mono (fun y hy => HGL.out y (.inl hy))) (fun y hy _ => hy)⟩
     ·have HSW := Lib.hid (show sweepA q (addedQ q j).jobs d2 = d2 from by unfold sweepA; rw [if_neg (by rw [HLK.out]; exact hdr)])
      have g3 : y2.frozen? ⟨g, 3, none⟩ = false := HXY.out.qu.blk.frozen 3
      have b0 : y2.cell? ⟨bj, 0, none⟩ = some (.int .i64 id) := by rw [HBY.out.cell]; rfl
      have HSL := Lib.hid (HXY.out.qu.setLast id)
      have b1 : (y2.setCell ⟨g, 3, none⟩ (.int .i64 id)).cell? ⟨bj, 0, none⟩ = some (.int .i64 id) := HSL.out.2.cell b0 (fun e => HNG.out.1 e)
      by_cases hl0 : 0 < q.last
      ·have hl1 : decide (0 < q.last) = true := decide_eq_true hl0
       have hwt : wt = true := by
        cases wt with
        |true => rfl
        |false => exact absurd ⟨hl0, rfl⟩ hdr
       subst hwt
       clear hl0 hdr
       go_wp2_with fail
       go_ret2
       rw [HDR.out, HSW.out, HAQ.out]
       exact ⟨by rw [HID.out]; rfl, ⟨_, _, _, _, (HXY.out.own HSL.out.1 HSL.out.2 (fun y hy => .inl hy)).more (k' := k + 11) (m := n + 1) (by omega) (Nat.le_refl _)⟩, HMY.out.trans (HSL.out.2.mono (fun y hy => HGL.out y (.inl hy))) (fun y hy _ => hy)⟩
      ·have hl1 : decide (0 < q.last) = false := decide_eq_false hl0
       clear hl0 hdr
       go_wp2_with fail
       go_ret2
       rw [HDR.out, HSW.out, HAQ.out]
       exact ⟨by rw [HID.out]; rfl, ⟨_, _, _, _, (HXY.out.own HSL.out.1 HSL.out.2 (fun y hy => .inl hy)).more (k' := k + 11) (m := n + 1) (by omega) (Nat.le_refl _)⟩, HMY.out.trans (HSL.out.2.mono (fun y hy => HGL.out y (.inl hy))) (fun y hy _ => hy)⟩
    ·have e1 : (c == 0) = false := by simp [hc]
     have e2 : (c != 0) = true := by simp [hc]
     have HR := Lib.hid (show qAdd q d j = ((q, d2), 0, c) from by rw [HD2.out, if_pos hc])
     clear hc
     go_wp2_with fail
     go_ret2
     rw [HR.out]
     exact ⟨rfl, ⟨_, _, _, _, HX8.out.more (by omega) (by omega)⟩, HMW.out⟩
   ·have e1 : (er == 0) = false := by simp [he]
    have e2 : (er != 0) = true := by simp [he]
    have HR := Lib.hid (show qAdd q d j = ((q, d), 0, er) from by
     unfold qAdd
     rw [if_neg (by have := HMX.out; omega), if_pos (by rw [HQB.out.1]; exact he), HQB.out.1])
    clear he
    go_wp2_with fail
    go_ret2
    rw [HR.out]
    exact ⟨rfl, ⟨_, _, _, _, HX6.out.more (by omega) (by omega)⟩, Mods.of_keeps HKW.out⟩
end
end Que
end Go.Proofs.YtcleakjjefmmbaaGreat
