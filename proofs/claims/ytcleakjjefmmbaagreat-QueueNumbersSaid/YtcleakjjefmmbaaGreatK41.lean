/- Several texts in one: EnRdEnv, TxOne, EnGetMem, TxRepPlain, EnEnv. -/
import Derived.Test.YtcleakjjefmmbaaGreatK40
import Derived.Test.YtcleakjjefmmbaaGreatK38
import Derived.Test.YtcleakjjefmmbaaGreatK28
import Derived.Test.YtcleakjjefmmbaaGreatMid
import Derived.Test.YtcleakjjefmmbaaGreatK29
import Derived.Test.YtcleakjjefmmbaaGreatK16
import Derived.Laws.OwnMore
/- envel.readEnv. -/
namespace Go.Proofs.YtcleakjjefmmbaaGreat
open Go.RowKit
namespace Env
open Adr (Str)
open Frm (ownsRow_keeps ownsRow_mods ownsRow_ne ownsRow_form ownsRow_ty rowS_lit)
def EnvRet (W : World) (l : Str) (e : Ending) (w' : World) : Prop :=
 ∃ (j : JobP) (p : Option Addr) (n c : Nat) (ok : Bool), e = .returned (.tuple #[.agg (jobC j.id j.arr j.fl j.fd (.slice p n c)), .bool ok]) ∧ ok = envOk (envR 100 capId capT l) l ∧
  (ok = true → j = (envR 100 capId capT l).1 ∧ w'.ownsRow W.heap.size 75 3 (.slice p n c) j.tos.length (j.tos.flatMap tgC)) ∧ Keeps W w'
theorem rowS_own {w : World} {base C n : Nat} {e : TypeId} {v : Value} {xs : List Value} (h : w.ownsRow base e C v n xs) : RowS w C v n xs := by
 refine ⟨h.1, ?_⟩
 rcases h.2 with ⟨rfl, rfl⟩ | ⟨q, cap, cur, rfl, _, hgg, h1, h2, h3, h4⟩
 ·exact .inl ⟨none, 0, rfl, rfl, Nat.zero_le _, fun _ => rfl⟩
 ·refine .inr ⟨q, 0, cap, rfl, h1, h2, fun i x hx => ?_⟩
  have hc := World.ownsRow.cells (h := h) (g := q) rfl i x hx
  rw [Go.WideShapes.add_plain] at hc
  exact hc
theorem rs_nil (w : World) (C : Nat) : RowS w C (.slice none 0 0) 0 [] := ⟨by simp, .inl ⟨none, 0, rfl, rfl, Nat.zero_le _, fun _ => rfl⟩⟩
set_option maxRecDepth 100000 in
set_option maxHeartbeats 4000000 in
theorem readEnv_any (w : World) (v : Value) (l : Str) (hr : Row w v (l.map u8v)) (hl : l.length ≤ 35184372088832) : Calls Tryz.prog 159 #[v] w (EnvRet w l) := by
 have HR := Lib.hid (hr.keeps ((Keeps.refl w).alloc (.cells (jobC 0 0 [] [] (.slice none 0 0)) 55)))
 have HX := Lib.hid (Blk.new w 55 (jobC 0 0 [] [] (.slice none 0 0)) rfl)
 have HK := Lib.hid ((Keeps.refl w).alloc (.cells (jobC 0 0 [] [] (.slice none 0 0)) 55))
 obtain ⟨pv, nv, cv, rfl⟩ : ∃ p n c, v = .slice p n c := let ⟨p, c, h, _⟩ := hr.form; ⟨p, _, c, h⟩
 clear hr
 have hid := uR_lt l 8 (by omega) (some 0)
 generalize hxi : (uR l 8 (some 0)).1 = xi at *
 generalize hsi : (uR l 8 (some 0)).2 = si at *
 have har := uR_lt l 8 (by omega) si
 generalize hxa : (uR l 8 si).1 = xa at *
 generalize hsa : (uR l 8 si).2 = sa at *
 generalize hxf : (tR l 100 sa).1 = xf at *
 generalize hsf : (tR l 100 sa).2 = sf at *
 generalize hxd : (tR l 100 sf).1 = xd at *
 generalize hsd : (tR l 100 sf).2 = sd at *
 have hcn := uR_lt l 1 (by omega) sd
 generalize hxn : (uR l 1 sd).1 = xn at *
 generalize hsn : (uR l 1 sd).2 = sn at *
 simp only [Nat.reducePow] at hid har hcn
 have HE1 := Lib.hid (And.intro hxi hsi)
 have HE2 := Lib.hid (And.intro hxa hsa)
 have HE3 := Lib.hid (And.intro hxn hsn)
 obtain ⟨ci, hci⟩ : ∃ c, capI capId xi = c := ⟨_, rfl⟩
 obtain ⟨ca, hca⟩ : ∃ c, capI capT xa = c := ⟨_, rfl⟩
 have hi1 := capId_le xi
 have hi2 := capId_if xi
 have ha1 := capI_le xa
 have ha2 := capI_if xa
 rw [hci] at hi1 hi2
 rw [hca] at ha1 ha2
 have HEN := Lib.hid (show envR 100 capId capT l = (⟨ci, ca, xf, xd, (tgsR l 100 xn sn).1, [], []⟩, (tgsR l 100 xn sn).2) from by
  unfold envR headR
  simp only [hxi, hsi, hxa, hsa, hxf, hsf, hxd, hsd, hxn, hsn, hci, hca])
 clear hxi hsi hxa hsa hxn hsn hci hca
 have wi : IntKind.i64.wrap ci = ci := IntWalk.i64_in _ (by omega)
 have wa : IntKind.i64.wrap ca = ca := IntWalk.i64_in _ (by omega)
 have HOK := Lib.hid (show envOk (envR 100 capId capT l) l = (decide ((tgsR l 100 xn sn).2 = some l.length) && envB ⟨ci, ca, xf, xd, (tgsR l 100 xn sn).1, [], []⟩) from by rw [HEN.out]; rfl)
 have HBX : Hid (∀ {W w : World} {g : Nat} (_ : SrcO W w g l sa) (B : Nat) (_ : Blk w B 260 #[.pointer (some ⟨g, 0, none⟩)]) (_ : B ≠ g),
   Calls Tryz.prog 202 #[.pointer (some ⟨B, 0, none⟩)] w fun e w' => e = .returned (.agg #[.string (bstr xf), .string (bstr xd)]) ∧ SrcO W w' g l sd ∧ Mods (· = g) w w') := Lib.hid (fun h B h1 h2 => by
  have := box_any h B h1 h2
  rw [hsf, hxf, hxd, hsd] at this
  exact this)
 have HFL := Lib.hid (show xf.length ≤ 100 ∧ xd.length ≤ 100 from ⟨by rw [← hxf]; exact tR_len _ _ _, by rw [← hxd]; exact tR_len _ _ _⟩)
 clear hxf hsf hxd hsd
 have HBOX : ∀ (x : Value) (w : World), (callFunc 202 #[x]).run Tryz.prog w = .ok (.enter 202 #[x]) w := fun x w => enters_of Tryz.func202 (by kernel_rfl) rfl _ _
 go_enter Tryz.func159, Tryz.ntmps159
 go_wp2_with fail
 refine (srcONew _ l HR.out hl).mono ?_
 rintro e z0 ⟨g, rfl, hso⟩
 have HS0 := Lib.hid (hso.lower HK.out)
 have HX0 := Lib.hid (HX.out.keeps hso.keepsW)
 have HJG := Lib.hid (show w.heap.size ≠ g from fun e => by
  have h1 := hso.ge
  have h2 := HX.out.lt
  omega)
 generalize w.alloc (.cells (jobC 0 0 [] [] (.slice none 0 0)) 55) = w1 at *
 generalize hJ : w.heap.size = J at *
 have HJJ := Lib.hid hJ
 clear hso hJ HX HR HK
 go_upto_region 3 with fail
 have hzJ : J < z0.heap.size := HX0.out.lt
 have hzg : g < z0.heap.size := HS0.out.lt
 obtain ⟨y0, hy0⟩ : ∃ y, z0.alloc (.cells #[.pointer (some ⟨g, 0, none⟩)] 260) = y := ⟨_, rfl⟩
 have HV := Lib.hid (show Blk y0 z0.heap.size 260 #[.pointer (some ⟨g, 0, none⟩)] from by rw [← hy0]; exact Blk.new _ _ _ rfl)
 have HKz := Lib.hid (show Keeps z0 y0 from by rw [← hy0]; exact (Keeps.refl _).alloc _)
 rw [hy0]
 have HT0 := Lib.hid (show EnvSt w y0 J z0.heap.size g l (some 0) 0 0 [] [] (.slice none 0 0) [] from ⟨HS0.out.kept HKz.out, HX0.out.keeps HKz.out, HV.out, World.ownsRow_nil _ _ _ _, HJG.out, by omega, by omega, by rw [← HJJ.out]; exact Nat.le_refl _, SrcO.blk (HS0.out.kept HKz.out)⟩)
 clear hy0 HX0 HS0 HKz HV hzJ hzg
 generalize z0.heap.size = B at *
 have vB : y0.cell? ⟨B, 0, none⟩ = some (.pointer (some ⟨g, 0, none⟩)) := by rw [HT0.out.var.cell]; rfl
 have hbg := HT0.out.bg
 have HTd := Lib.hid (HT0.out.kept ((Keeps.refl y0).drew))
 clear HT0
 refine wp_region_noPanic ?_
 refine wp_region_held_drew (S := fun w' => Mods (· = g) y0 w') (by kernel_rfl) ((Mods.refl (· = g) y0).drew) (fun _ => ?_)
 have hHeld : Mods (· = g) y0 (y0).drew := (Mods.refl (· = g) y0).drew
 generalize World.drew y0 = xs at *
 refine tq 0 12 ?_ (hy := fun w' hSw => by
  have hSw : Mods (· = g) y0 w' := hSw
  have hx := hSw.cell vB hbg
  clear hSw
  go_simp
  try with_reducible rfl)
 refine tq 2 14 ?_ (hy := fun w' hSw => by
  have hSw : Mods (· = g) y0 w' := hSw
  have hx := hSw.cell vB hbg
  clear hSw
  go_simp
  try with_reducible rfl)
 refine rd1 1 (fun K hK => ?_)
 go_simp
 refine (srcOU HTd.out.src 8 8 rfl (by omega)).mono ?_
 rintro e z1 ⟨rfl, hso, hm⟩
 rw [HE1.out.2] at hso
 rw [HE1.out.1]
 have HT1 := Lib.hid (HTd.out.did hso hm)
 have hb := hHeld.trans hm (fun x h _ => h)
 clear hso hm HTd
 go_wp2_with fail
 refine bkm hK hb ?_
 clear hK K hHeld
 have hHeld : Mods (· = g) y0 z1 := hb
 clear hb
 refine rd1 3 (fun K hK => ?_)
 go_simp
 refine (srcOU HT1.out.src 8 8 rfl (by omega)).mono ?_
 rintro e z2 ⟨rfl, hso, hm⟩
 rw [HE2.out.2] at hso
 rw [HE2.out.1]
 have HT2 := Lib.hid (HT1.out.did hso hm)
 have hb := hHeld.trans hm (fun x h _ => h)
 clear hso hm HT1
 go_wp2_with fail
 refine bkm hK hb ?_
 clear hK K hHeld
 have hHeld : Mods (· = g) y0 z2 := hb
 clear hb
 refine tq 4 6 ?_
 refine tq 5 7 ?_
 refine wpAnyH_done (by kernel_rfl) ?_ _
 refine NoPanic.normal ?_
 clear hHeld vB
 have j0 : z2.cell? ⟨J, 0, none⟩ = some (.int .i64 0) := by rw [HT2.out.job.cell]; rfl
 have j1 : z2.cell? ⟨J, 1, none⟩ = some (.int .i64 0) := by rw [HT2.out.job.cell]; rfl
 have f0 : z2.frozen? ⟨J, 0, none⟩ = false := HT2.out.job.frozen _
 have f1 : z2.frozen? ⟨J, 1, none⟩ = false := HT2.out.job.frozen _
 have HT3 := Lib.hid (show EnvSt w ((z2.setCell ⟨J, 0, none⟩ (.int .i64 ci)).setCell ⟨J, 1, none⟩ (.int .i64 ca)) J B g l sa ci ca [] [] (.slice none 0 0) [] from HT2.out.write (((Mods.refl (· = J) z2).setCell (p := ⟨J, 0, none⟩) (fun _ => rfl) _).setCell (p := ⟨J, 1, none⟩) (fun _ => rfl) _) ((HT2.out.job.set_ 0 _).set_ 1 _))
 go_upto_region 5 with fail
 generalize ((z2.setCell ⟨J, 0, none⟩ (.int .i64 ci)).setCell ⟨J, 1, none⟩ (.int .i64 ca)) = y3 at *
 clear j0 j1 f0 f1 HT2
 go_wp2_with fail
 refine (HBX.out HT3.out.src B HT3.out.var HT3.out.bg).mono ?_
 rintro e z4 ⟨rfl, hso, hm⟩
 have HT4 := Lib.hid (HT3.out.did hso hm)
 clear hso hm HT3
 have j2 : z4.cell? ⟨J, 2, none⟩ = some (.string (bstr [])) := by rw [HT4.out.job.cell]; rfl
 have j3 : z4.cell? ⟨J, 3, none⟩ = some (.string (bstr [])) := by rw [HT4.out.job.cell]; rfl
 have f2 : z4.frozen? ⟨J, 2, none⟩ = false := HT4.out.job.frozen _
 have f3 : z4.frozen? ⟨J, 3, none⟩ = false := HT4.out.job.frozen _
 have HT5 := Lib.hid (show EnvSt w ((z4.setCell ⟨J, 2, none⟩ (.string (bstr xf))).setCell ⟨J, 3, none⟩ (.string (bstr xd))) J B g l sd ci ca xf xd (.slice none 0 0) [] from HT4.out.write (((Mods.refl (· = J) z4).setCell (p := ⟨J, 2, none⟩) (fun _ => rfl) _).setCell (p := ⟨J, 3, none⟩) (fun _ => rfl) _) ((HT4.out.job.set_ 2 _).set_ 3 _))
 go_upto_region 6 with fail
 generalize ((z4.setCell ⟨J, 2, none⟩ (.string (bstr xf))).setCell ⟨J, 3, none⟩ (.string (bstr xd))) = y5 at *
 clear j2 j3 f2 f3 HT4
 have vB : y5.cell? ⟨B, 0, none⟩ = some (.pointer (some ⟨g, 0, none⟩)) := by rw [HT5.out.var.cell]; rfl
 go_wp2_with fail
 refine (srcOU HT5.out.src 1 1 rfl (by omega)).mono ?_
 rintro e z6 ⟨rfl, hso, hm⟩
 rw [HE3.out.2] at hso
 rw [HE3.out.1]
 have HT6 := Lib.hid (HT5.out.did hso hm)
 clear hso hm HT5 vB
 go_wp2_with fail
 go_loopw [29] (fun iv wr => ∃ (i : Nat) (vt : Value), iv = .int .u64 (i : Int) ∧ i ≤ xn ∧ Hid (EnvSt w wr J B g l (tgsR l 100 i sn).2 ci ca xf xd vt (tgsR l 100 i sn).1)) (fun iv _ => xn - (intOf iv).toNat)
 case atStart => exact ⟨0, _, rfl, Nat.zero_le _, HT6⟩
 case round =>
  obtain ⟨i, vt, rfl, hi, HT⟩ := hrel
  obtain ⟨po, co, rfl, hpo⟩ := ownsRow_form HT.out.own
  have HTL := Lib.hid (tgsR_len l 100 i sn)
  by_cases hlt : i < xn
  ·have hw : IntKind.u64.wrap ((i : Int) + 1) = (i : Int) + 1 := by rw [IntKind.wrap_u64]; omega
   have HNX := Lib.hid (tgsR_snoc l 100 i sn)
   have HST := Lib.hid (fun h : (tgsR l 100 (i + 1) sn).2 = none => tgsR_stop h (show i + 1 ≤ xn by omega))
   generalize hT : (tgsR l 100 i sn).1 = T at *
   generalize hσ : (tgsR l 100 i sn).2 = σ at *
   clear hT hσ
   have hbu := uR_lt l 2 (by omega) σ
   have HTG := Lib.hid (show tgR l 100 σ = (⟨(uR l 2 σ).1, (tR l 100 (uR l 2 σ).2).1, (tR l 100 (tR l 100 (uR l 2 σ).2).2).1⟩, (tR l 100 (tR l 100 (uR l 2 σ).2).2).2) from rfl)
   generalize hxu : (uR l 2 σ).1 = xu at *
   generalize hsu : (uR l 2 σ).2 = su at *
   have HEU := Lib.hid (And.intro hxu hsu)
   clear hxu hsu
   simp only [Nat.reducePow] at hbu
   have wu : IntKind.i64.wrap (xu : Int) = (xu : Int) := IntWalk.i64_in _ (by omega)
   have htl : T.length ≤ 255 := by have := HTL.out; omega
   have vB : wr.cell? ⟨B, 0, none⟩ = some (.pointer (some ⟨g, 0, none⟩)) := by rw [HT.out.var.cell]; rfl
   go_wp2_with fail
   refine (srcOU HT.out.src 2 2 rfl (by omega)).mono ?_
   rintro e y1 ⟨rfl, hso, hm⟩
   rw [HEU.out.2] at hso
   rw [HEU.out.1]
   have HT1 := Lib.hid (HT.out.did hso hm)
   clear hso hm HT vB HEU
   go_upto_region 9 with fail
   generalize hW : World.alloc y1 _ = y2
   have HKy := Lib.hid (show Keeps y1 y2 from by rw [← hW]; exact (Keeps.refl _).alloc _)
   have HFy := Lib.hid (show Blk y2 y1.heap.size 75 #[.int .i64 (xu : Int), .string (bstr []), .string (bstr [])] from by rw [← hW]; exact Blk.new _ _ _ rfl)
   clear hW
   have HT2 := Lib.hid (HT1.out.kept HKy.out)
   obtain ⟨q, hq⟩ : ∃ q, q = y1.heap.size := ⟨_, rfl⟩
   have HQG := Lib.hid (show q ≠ g from fun e => by have := HT1.out.src.lt; omega)
   rw [← hq] at HFy ⊢
   have HQW := Lib.hid (show w.heap.size ≤ q from by have := HT1.out.src.keepsW.size; omega)
   have HQJ := Lib.hid (show q ≠ J from fun e => by have := HT1.out.job.lt; omega)
   have HQB := Lib.hid (show q ≠ B from fun e => by have := HT1.out.var.lt; omega)
   have HQO := Lib.hid (show ∀ x, (Value.slice po T.length co).ownBlock = some x → x ≠ q from fun x hx e => by
    have := Frm.ownsRow_lt HT1.out.own x hx
    omega)
   clear hq HT1 HKy
   generalize hx1 : (tR l 100 su).1 = x1 at *
   generalize hs1 : (tR l 100 su).2 = s1 at *
   generalize hx2 : (tR l 100 s1).1 = x2 at *
   generalize hs2 : (tR l 100 s1).2 = s2 at *
   have HBY := Lib.hid (box_any HT2.out.src B HT2.out.var HT2.out.bg)
   rw [hs1, hx1, hx2, hs2] at HBY
   clear hx1 hs1 hx2 hs2
   go_wp2_with fail
   refine HBY.out.mono ?_
   rintro e y3 ⟨rfl, hso, hm⟩
   have HT3 := Lib.hid (HT2.out.did hso hm)
   have HF3 := Lib.hid (HFy.out.mods hm HQG.out)
   clear hso hm HT2 HFy HBY
   have q1 : y3.cell? ⟨q, 1, none⟩ = some (.string (bstr [])) := by rw [HF3.out.cell]; rfl
   have q2 : y3.cell? ⟨q, 2, none⟩ = some (.string (bstr [])) := by rw [HF3.out.cell]; rfl
   have f1 : y3.frozen? ⟨q, 1, none⟩ = false := HF3.out.frozen _
   have f2 : y3.frozen? ⟨q, 2, none⟩ = false := HF3.out.frozen _
   have HMq := Lib.hid (show Mods (· = q) y3 ((y3.setCell ⟨q, 1, none⟩ (.string (bstr x1))).setCell ⟨q, 2, none⟩ (.string (bstr x2))) from ((Mods.refl (· = q) y3).setCell (p := ⟨q, 1, none⟩) (fun _ => rfl) _).setCell (p := ⟨q, 2, none⟩) (fun _ => rfl) _)
   have HF4 := Lib.hid (show Blk ((y3.setCell ⟨q, 1, none⟩ (.string (bstr x1))).setCell ⟨q, 2, none⟩ (.string (bstr x2))) q 75 #[.int .i64 (xu : Int), .string (bstr x1), .string (bstr x2)] from (HF3.out.set_ 1 _).set_ 2 _)
   have HT4 := Lib.hid (show EnvSt w ((y3.setCell ⟨q, 1, none⟩ (.string (bstr x1))).setCell ⟨q, 2, none⟩ (.string (bstr x2))) J B g l s2 ci ca xf xd (.slice po T.length co) T from
    ⟨HT3.out.src.modsB HMq.out (fun x hx => by
     subst hx
     exact ⟨HQW.out, HQG.out, fun cs fr hh => by have h2 := HF3.out; unfold Blk at h2; rw [h2] at hh; simp at hh⟩), HT3.out.job.mods HMq.out HQJ.out.symm, HT3.out.var.mods HMq.out HQB.out.symm, ownsRow_mods HT3.out.own HMq.out (fun x hx e => HQO.out x hx e), HT3.out.jg, HT3.out.jb, HT3.out.bg, HT3.out.jw, let ⟨cs, hc⟩ := HT3.out.gs; ⟨cs, hc.mods HMq.out HQG.out.symm⟩⟩)
   go_upto_region 10 with fail
   generalize ((y3.setCell ⟨q, 1, none⟩ (.string (bstr x1))).setCell ⟨q, 2, none⟩ (.string (bstr x2))) = y4 at *
   clear q1 q2 f1 f2 HMq HF3 HT3 HQO
   have j4 : y4.cell? ⟨J, 4, none⟩ = some (.slice po T.length co) := by rw [HT4.out.job.cell]; rfl
   have q0 : y4.cell? ⟨q, 0, none⟩ = some (.int .i64 (xu : Int)) := by rw [HF4.out.cell]; rfl
   have q1 : y4.cell? ⟨q, 1, none⟩ = some (.string (bstr x1)) := by rw [HF4.out.cell]; rfl
   have q2 : y4.cell? ⟨q, 2, none⟩ = some (.string (bstr x2)) := by rw [HF4.out.cell]; rfl
   have hwz : w.heap.size ≤ (y4.alloc (.cells #[.int .i64 (xu : Int), .string (bstr x1), .string (bstr x2)] 75)).heap.size := (HT4.out.src.keepsW.alloc _).size
   go_upto_region 11 with (at_builtin; refine wpList_apps (base := w.heap.size) tgok (by decide) rfl _ _ rfl (.slice po T.length co) (.slice (some ⟨y4.heap.size, 0, none⟩) 1 1) T.length 1 (T.flatMap tgC) (tgC ⟨(xu : Int), x1, x2⟩) rfl rfl (ownsRow_keeps HT4.out.own ((Keeps.refl _).alloc _)) (rowS_lit rfl rfl rfl) (by simp [tgC, Value.oneCell']) (by omega) (by decide) hwz ?_; intro v7 w7 ho7 hg7 hf7; obtain ⟨p7, c7, rfl, -, -⟩ := ownsRow_form ho7; have HT7 := Lib.hid (HT4.out.grown (t := ⟨(xu : Int), x1, x2⟩) ((Keeps.refl _).alloc _) hg7 ho7); have j7 : w7.cell? ⟨J, 4, none⟩ = some (.slice po T.length co) := ((Mods.refl (fun x => (Value.slice po T.length co).ownBlock = some x) _).grown hg7 (fun k hk _ => hk)).cell (by rw [((HT4.out.kept ((Keeps.refl _).alloc (.cells #[.int .i64 (xu : Int), .string (bstr x1), .string (bstr x2)] 75))).job).cell]; rfl) (ownsRow_ne HT4.out.own HT4.out.job (by decide)); have f7 : w7.frozen? ⟨J, 4, none⟩ = false := (((HT4.out.kept ((Keeps.refl _).alloc (.cells #[.int .i64 (xu : Int), .string (bstr x1), .string (bstr x2)] 75))).job).mods ((Mods.refl (fun x => (Value.slice po T.length co).ownBlock = some x) _).grown hg7 (fun k hk _ => hk)) (ownsRow_ne HT4.out.own HT4.out.job (by decide))).frozen _; clear ho7 hg7 hf7)
   generalize w7.setCell ⟨J, 4, none⟩ (.slice p7 (T.length + 1) c7) = y8 at *
   clear j4 j7 f7 q0 q1 q2 HT4 HF4
   have vB : y8.cell? ⟨B, 0, none⟩ = some (.pointer (some ⟨g, 0, none⟩)) := by rw [HT7.out.var.cell]; rfl
   go_wp2_with fail
   refine (srcOErr HT7.out.src).mono ?_
   rintro e y9 ⟨er, rfl, her, rfl⟩
   by_cases hs : s2 = none
   ·have e1 : (er != 0) = true := by simpa using her.1 hs
    have HF := Lib.hid (show envOk (envR 100 capId capT l) l = false from by
     have := HST.out (by rw [HNX.out, HTG.out]; exact hs)
     rw [HOK.out, this]
     rfl)
    clear her hs
    go_wp2_with (first | refine wpList_ld rfl jobM HT7.out.job _ rfl rfl ?_ | (refine wpList_st rfl jobM HT7.out.job rfl (by simp [Value.oneCell']) _ _ rfl rfl rfl rfl ?_; intro yF hBF hMF; have FF := Lib.hid (show yF.cell? ⟨J, 0, none⟩ = some (.int .i64 ci) ∧ yF.cell? ⟨J, 1, none⟩ = some (.int .i64 ca) ∧ yF.cell? ⟨J, 2, none⟩ = some (.string (bstr xf)) ∧ yF.cell? ⟨J, 3, none⟩ = some (.string (bstr xd)) ∧ yF.cell? ⟨J, 4, none⟩ = some (.slice p7 (T.length + 1) c7) ∧ yF.cell? ⟨J, 5, none⟩ = some (.slice none 0 0) ∧ yF.cell? ⟨J, 6, none⟩ = some (.slice none 0 0) from ⟨by rw [hBF.cell]; rfl, by rw [hBF.cell]; rfl, by rw [hBF.cell]; rfl, by rw [hBF.cell]; rfl, by rw [hBF.cell]; rfl, by rw [hBF.cell]; rfl, by rw [hBF.cell]; rfl⟩); have HKF := Lib.hid (hMF.keeps HT7.out.src.keepsW (fun x hx => by rw [hx]; exact HT7.out.jw)); clear hBF hMF))
    exact bodyPost_ret (v := .tuple #[.agg (jobC ci ca xf xd (.slice p7 (T.length + 1) c7)), .bool false]) (by simp [results, Tryz.results159, go_sem, jobC, FF.out.1, FF.out.2.1, FF.out.2.2.1, FF.out.2.2.2.1, FF.out.2.2.2.2.1, FF.out.2.2.2.2.2.1, FF.out.2.2.2.2.2.2]) rfl ⟨⟨ci, ca, xf, xd, [], [], []⟩, p7, T.length + 1, c7, false, rfl, HF.out.symm, by simp, HKF.out⟩
   ·have e1 : (er != 0) = false := by
     by_cases h : er = 0
     ·simp [h]
     ·exact absurd (her.2 h) hs
    have HN := Lib.hid (show EnvSt w y8 J B g l (tgsR l 100 (i + 1) sn).2 ci ca xf xd (.slice p7 (T.length + 1) c7) (tgsR l 100 (i + 1) sn).1 from by
     rw [HNX.out, HTG.out]
     exact HT7.out)
    clear her hs HT7 HNX HTG vB
    go_wp2_with fail
    go_roundw
    case rel => exact ⟨i + 1, _, by simp, by omega, HN⟩
    case measure =>
     simp only [intOf]
     omega
  ·have hie : i = xn := by omega
   subst hie
   have HSM := Lib.hid (tgsR_sm l 100 i sn)
   have hlt' : ¬ (i : Int) < (i : Int) := by omega
   generalize (tgsR l 100 i sn).1 = T at *
   generalize (tgsR l 100 i sn).2 = σ at *
   have hlen : T.length = i := HTL.out
   have HSH := Lib.hid (show Short ⟨ci, ca, xf, xd, T, [], []⟩ from ⟨by have := HFL.out.1; show xf.length ≤ _; omega, by have := HFL.out.2; show xd.length ≤ _; omega, fun t ht => ⟨by have := (HSM.out t ht).2.1; omega, by have := (HSM.out t ht).2.2; omega, tgSm_wf (HSM.out t ht)⟩, by show T.length ≤ _; omega, by simp, by simp⟩)
   have HRT := Lib.hid HT.out.own
   have vB : wr.cell? ⟨B, 0, none⟩ = some (.pointer (some ⟨g, 0, none⟩)) := by rw [HT.out.var.cell]; rfl
   have hbj := HT.out.jb.symm
   have HX0 := Lib.hid HT.out.job.drew
   have HSd := Lib.hid (HT.out.src.core.kept ((Keeps.refl wr).drew))
   have HRd := Lib.hid (ownsRow_keeps HRT.out ((Keeps.refl wr).drew))
   have HKW := Lib.hid HT.out.src.keepsW
   have HJW := Lib.hid HT.out.jw
   have HRJ := Lib.hid (show ∀ x, (Value.slice po T.length co).ownBlock = some x → ¬ x = J from fun x hx e => ownsRow_ne HT.out.own HT.out.job (by decide) (by rw [hx, e]))
   clear hlt HTL HSM HRT HT hlen
   go_wp2_with fail
   by_cases hsl : σ = some l.length
   ·have HOK2 := Lib.hid (show envOk (envR 100 capId capT l) l = envB ⟨ci, ca, xf, xd, T, [], []⟩ from by rw [HOK.out, decide_eq_true hsl]; rfl)
    have HGV : Hid (∀ wz, RowS wz 3 (.slice po T.length co) T.length (T.flatMap tgC) → Calls Tryz.prog 178 #[.agg (jobC ci ca xf xd (.slice po T.length co))] wz fun e w' => e = .returned (.bool (envB ⟨ci, ca, xf, xd, T, [], []⟩)) ∧ Keeps wz w') := Lib.hid (fun wz h => goodEnv_any wz ⟨ci, ca, xf, xd, T, [], []⟩ (.slice po T.length co) (.slice none 0 0) (.slice none 0 0) ⟨h, rs_nil _ _, row_nil _⟩ HSH.out)
    generalize envB ⟨ci, ca, xf, xd, T, [], []⟩ = eb at *
    refine wp_region_noPanic ?_
    refine wp_region_held_drew (S := fun w' => HB1 55 J (jobC ci ca xf xd (.slice po T.length co)) wr w') (by kernel_rfl) ((⟨(Mods.refl (· = J) wr).drew, HX0.out⟩ : HB1 55 J (jobC ci ca xf xd (.slice po T.length co)) wr wr.drew)) (fun _ => ?_)
    have hHeld : HB1 55 J (jobC ci ca xf xd (.slice po T.length co)) wr (wr).drew := (⟨(Mods.refl (· = J) wr).drew, HX0.out⟩ : HB1 55 J (jobC ci ca xf xd (.slice po T.length co)) wr wr.drew)
    generalize World.drew wr = xs at *
    refine wpAnyH_take (i := 0) (by rfl) (by kernel_rfl) (by kernel_rfl) (by kernel_rfl) (by intro _ _ _ h; exact h) (yieldsIf_ld (by kernel_rfl) jobM (fun w' hS => hS.2) _ rfl rfl) (by assumption) ?rest5
    change wpAnyH _ _ _ _ _ _ _ (Act.put _ (some 49) _) _
    try simp only [Act.put, List.setIfInBounds_toArray, List.set_cons_zero, List.set_cons_succ]
    refine tq 1 50 ?_ (hy := fun w' hSw => by
     have hSw : HB1 55 J (jobC ci ca xf xd (.slice po T.length co)) wr w' := hSw
     have hx := hSw.1.cell vB hbj
     clear hSw
     go_simp
     try with_reducible rfl)
    refine rd1 2 (fun K hK => ?_)
    go_simp
    refine (srcODone HSd.out).mono ?_
    rintro e zd ⟨er, rfl, her, hk⟩
    have e1 : (er == 0) = true := by simpa using her.1 hsl
    have HRz := Lib.hid (ownsRow_keeps HRd.out hk)
    have hb := hHeld.keeps hk
    clear hk her
    go_wp2_with fail
    refine bkm hK hb ?_
    clear hK K hHeld
    have hHeld : HB1 55 J (jobC ci ca xf xd (.slice po T.length co)) wr zd := hb
    clear hb
    refine tq 3 52 ?_
    refine tq 4 53 ?_
    refine wpAnyH_take (i := 5) (by rfl) (by kernel_rfl) (by kernel_rfl) (by kernel_rfl) (by intro _ _ _ h; exact h) (yieldsIf_ld (by kernel_rfl) jobM (fun w' hS => hS.2) _ rfl rfl) (by assumption) ?rest9
    change wpAnyH _ _ _ _ _ _ _ (Act.put _ (some 54) _) _
    try simp only [Act.put, List.setIfInBounds_toArray, List.set_cons_zero, List.set_cons_succ]
    refine rd1 6 (fun K hK => ?_)
    go_simp
    refine (HGV.out _ (rowS_own HRz.out)).mono ?_
    rintro e zg ⟨rfl, hk⟩
    have HRg := Lib.hid (ownsRow_keeps HRz.out hk)
    have hb := hHeld.keeps hk
    clear hk
    go_wp2_with fail
    refine bkm hK hb ?_
    clear hK K hHeld
    have hHeld : HB1 55 J (jobC ci ca xf xd (.slice po T.length co)) wr zg := hb
    clear hb
    refine tq 7 56 ?_
    refine rd1 8 (fun K hK => ?_)
    refine step_st (ds := jobC ci ca xf xd (.slice po T.length co)) rfl jobM hHeld.2 rfl (by simp [Value.oneCell']) _ _ rfl rfl rfl rfl ?_
    intro yF hBF hMF
    have HRF := Lib.hid (show yF.ownsRow w.heap.size 75 3 (.slice po T.length co) T.length (T.flatMap tgC) from ownsRow_mods HRg.out hMF HRJ.out)
    have hb : HB1 55 J (jobC ci ca xf xd (.slice po T.length co)) wr yF := ⟨hHeld.1.trans hMF (fun x h _ => h), hBF⟩
    clear hBF hMF
    refine bkm hK hb ?_
    clear hK K hHeld
    have hHeld : HB1 55 J (jobC ci ca xf xd (.slice po T.length co)) wr yF := hb
    clear hb
    refine tq 9 3 ?_
    refine wpAnyH_done (by kernel_rfl) ?_ _
    refine NoPanic.normal ?_
    have FF := Lib.hid (show yF.cell? ⟨J, 0, none⟩ = some (.int .i64 ci) ∧ yF.cell? ⟨J, 1, none⟩ = some (.int .i64 ca) ∧ yF.cell? ⟨J, 2, none⟩ = some (.string (bstr xf)) ∧ yF.cell? ⟨J, 3, none⟩ = some (.string (bstr xd)) ∧ yF.cell? ⟨J, 4, none⟩ = some (.slice po T.length co) ∧ yF.cell? ⟨J, 5, none⟩ = some (.slice none 0 0) ∧ yF.cell? ⟨J, 6, none⟩ = some (.slice none 0 0) from ⟨by rw [hHeld.2.cell]; rfl, by rw [hHeld.2.cell]; rfl, by rw [hHeld.2.cell]; rfl, by rw [hHeld.2.cell]; rfl, by rw [hHeld.2.cell]; rfl, by rw [hHeld.2.cell]; rfl, by rw [hHeld.2.cell]; rfl⟩)
    have HKF := Lib.hid (hHeld.1.keeps HKW.out (fun x hx => by rw [hx]; exact HJW.out))
    clear hHeld
    go_wp2_with fail
    exact bodyPost_ret (v := .tuple #[.agg (jobC ci ca xf xd (.slice po T.length co)), .bool eb]) (by simp [results, Tryz.results159, go_sem, jobC, FF.out.1, FF.out.2.1, FF.out.2.2.1, FF.out.2.2.2.1, FF.out.2.2.2.2.1, FF.out.2.2.2.2.2.1, FF.out.2.2.2.2.2.2]) rfl ⟨⟨ci, ca, xf, xd, T, [], []⟩, po, T.length, co, eb, rfl, HOK2.out.symm, fun _ => ⟨by rw [HEN.out], HRF.out⟩, HKF.out⟩
   ·have HOK2 := Lib.hid (show envOk (envR 100 capId capT l) l = false from by rw [HOK.out, decide_eq_false hsl]; rfl)
    refine wp_region_noPanic ?_
    refine wp_region_held_drew (S := fun w' => HB1 55 J (jobC ci ca xf xd (.slice po T.length co)) wr w') (by kernel_rfl) ((⟨(Mods.refl (· = J) wr).drew, HX0.out⟩ : HB1 55 J (jobC ci ca xf xd (.slice po T.length co)) wr wr.drew)) (fun _ => ?_)
    have hHeld : HB1 55 J (jobC ci ca xf xd (.slice po T.length co)) wr (wr).drew := (⟨(Mods.refl (· = J) wr).drew, HX0.out⟩ : HB1 55 J (jobC ci ca xf xd (.slice po T.length co)) wr wr.drew)
    generalize World.drew wr = xs at *
    refine wpAnyH_take (i := 0) (by rfl) (by kernel_rfl) (by kernel_rfl) (by kernel_rfl) (by intro _ _ _ h; exact h) (yieldsIf_ld (by kernel_rfl) jobM (fun w' hS => hS.2) _ rfl rfl) (by assumption) ?rest12
    change wpAnyH _ _ _ _ _ _ _ (Act.put _ (some 49) _) _
    try simp only [Act.put, List.setIfInBounds_toArray, List.set_cons_zero, List.set_cons_succ]
    refine tq 1 50 ?_ (hy := fun w' hSw => by
     have hSw : HB1 55 J (jobC ci ca xf xd (.slice po T.length co)) wr w' := hSw
     have hx := hSw.1.cell vB hbj
     clear hSw
     go_simp
     try with_reducible rfl)
    refine rd1 2 (fun K hK => ?_)
    go_simp
    refine (srcODone HSd.out).mono ?_
    rintro e zd ⟨er, rfl, her, hk⟩
    have e1 : (er == 0) = false := by simpa using fun h => hsl (her.2 h)
    have HRz := Lib.hid (ownsRow_keeps HRd.out hk)
    have hb := hHeld.keeps hk
    clear hk her
    go_wp2_with fail
    refine bkm hK hb ?_
    clear hK K hHeld
    have hHeld : HB1 55 J (jobC ci ca xf xd (.slice po T.length co)) wr zd := hb
    clear hb
    refine tq 3 52 ?_
    refine tq 4 53 ?_
    refine wpAnyH_take (i := 5) (by rfl) (by kernel_rfl) (by kernel_rfl) (by kernel_rfl) (by intro _ _ _ h; exact h) (Or.inr ⟨by kernel_rfl, rfl⟩) (by assumption) ?rest16
    change wpAnyH _ _ _ _ _ _ _ (Act.put _ (some 54) _) _
    try simp only [Act.put, List.setIfInBounds_toArray, List.set_cons_zero, List.set_cons_succ]
    refine wpAnyH_take (i := 6) (by rfl) (by kernel_rfl) (by kernel_rfl) (by kernel_rfl) (by intro _ _ _ h; exact h) (Or.inr ⟨by kernel_rfl, rfl⟩) (by assumption) ?rest17
    change wpAnyH _ _ _ _ _ _ _ (Act.put _ (some 55) _) _
    try simp only [Act.put, List.setIfInBounds_toArray, List.set_cons_zero, List.set_cons_succ]
    refine tq 7 56 ?_
    refine rd1 8 (fun K hK => ?_)
    refine step_st (ds := jobC ci ca xf xd (.slice po T.length co)) rfl jobM hHeld.2 rfl (by simp [Value.oneCell']) _ _ rfl rfl rfl rfl ?_
    intro yF hBF hMF
    have hb : HB1 55 J (jobC ci ca xf xd (.slice po T.length co)) wr yF := ⟨hHeld.1.trans hMF (fun x h _ => h), hBF⟩
    clear hBF hMF
    refine bkm hK hb ?_
    clear hK K hHeld
    have hHeld : HB1 55 J (jobC ci ca xf xd (.slice po T.length co)) wr yF := hb
    clear hb
    refine tq 9 3 ?_
    refine wpAnyH_done (by kernel_rfl) ?_ _
    refine NoPanic.normal ?_
    have FF := Lib.hid (show yF.cell? ⟨J, 0, none⟩ = some (.int .i64 ci) ∧ yF.cell? ⟨J, 1, none⟩ = some (.int .i64 ca) ∧ yF.cell? ⟨J, 2, none⟩ = some (.string (bstr xf)) ∧ yF.cell? ⟨J, 3, none⟩ = some (.string (bstr xd)) ∧ yF.cell? ⟨J, 4, none⟩ = some (.slice po T.length co) ∧ yF.cell? ⟨J, 5, none⟩ = some (.slice none 0 0) ∧ yF.cell? ⟨J, 6, none⟩ = some (.slice none 0 0) from ⟨by rw [hHeld.2.cell]; rfl, by rw [hHeld.2.cell]; rfl, by rw [hHeld.2.cell]; rfl, by rw [hHeld.2.cell]; rfl, by rw [hHeld.2.cell]; rfl, by rw [hHeld.2.cell]; rfl, by rw [hHeld.2.cell]; rfl⟩)
    have HKF := Lib.hid (hHeld.1.keeps HKW.out (fun x hx => by rw [hx]; exact HJW.out))
    clear hHeld
    go_wp2_with fail
    exact bodyPost_ret (v := .tuple #[.agg (jobC ci ca xf xd (.slice po T.length co)), .bool false]) (by simp [results, Tryz.results159, go_sem, jobC, FF.out.1, FF.out.2.1, FF.out.2.2.1, FF.out.2.2.2.1, FF.out.2.2.2.2.1, FF.out.2.2.2.2.2.1, FF.out.2.2.2.2.2.2]) rfl ⟨⟨ci, ca, xf, xd, [], [], []⟩, po, T.length, co, false, rfl, HOK2.out.symm, by simp, HKF.out⟩
end Env
end Go.Proofs.YtcleakjjefmmbaaGreat

/- txlog.one. -/
namespace Go.Proofs.YtcleakjjefmmbaaGreat
open Go.RowKit
namespace Txl
open Oct Frm
theorem frM : Mids Tryz.prog 178 4 := ⟨⟨_, Tryz.underlying178, rfl⟩, by kernel_rfl⟩
/-- a row of frames that is read alone -/
structure FrmsR (w : World) (base : Nat) (v : Value) (l : List (Fr1 × Value)) : Prop where
 row : RowS w 4 v l.length (l.flatMap frC)
 pay : ∀ x ∈ l, Piece w base 5 x.2 (x.1.pay.map u8v)
 len : ∀ x ∈ l, x.1.pay.length ≤ 35184372088832
 ty : ∀ b off n cap, v = .slice (some ⟨b, off, none⟩) n cap → 0 < n → ∃ cs fr, w.heap[b]? = some (.cells cs 178 fr)
section
variable {w w' : World} {base : Nat} {v : Value} {l : List (Fr1 × Value)}
theorem FrmsR.keeps (h : FrmsR w base v l) (k : Keeps w w') : FrmsR w' base v l := ⟨h.row.keeps k, fun x hx => (h.pay x hx).keeps k, h.len, fun b off n cap hv hn => by
 obtain ⟨cs, fr, hh⟩ := h.ty b off n cap hv hn
 exact ⟨cs, fr, by rw [k.block (Array.getElem?_eq_some_iff.1 hh).1]; exact hh⟩⟩
theorem FrmsR.form (h : FrmsR w base v l) : ∃ p cap, v = .slice p l.length cap ∧ l.length ≤ cap ∧ cap ≤ 9223372036854775807 := h.row.form
theorem FrmsR.at_ (h : FrmsR w base v l) {j : Nat} (hj : j < l.length) : ∃ b off cap, v = .slice (some ⟨b, off, none⟩) l.length cap ∧ w.rangeAt b (off + j * 4) (frC l[j]) := by
 obtain ⟨b, off, cap, hv, -, -, hc⟩ := RowS.at_ h.row (by omega)
 refine ⟨b, off, cap, hv, fun i x hx => ?_⟩
 have hi : i < 4 := by
  have := (List.getElem?_eq_some_iff.1 hx).1
  simpa [frC] using this
 rw [Nat.add_assoc]
 refine hc.out (j * 4 + i) x ?_
 rw [flat_get frC_len l j i _ (List.getElem?_eq_getElem hj) hi]
 exact hx
theorem FrmsR.cut {p : Option Addr} {cap : Nat} (h : FrmsR w base (.slice p l.length cap) l) {lo hi : Nat} (h1 : lo ≤ hi) (h2 : hi ≤ l.length) : FrmsR w base (cutS 4 p lo hi cap) ((l.drop lo).take (hi - lo)) := by
 have hp := RowS.part frC_len h.row h1 h2
 refine ⟨?_, fun x hx => h.pay x (List.mem_of_mem_drop (List.mem_of_mem_take hx)), fun x hx => h.len x (List.mem_of_mem_drop (List.mem_of_mem_take hx)), fun b off n c hv hn => ?_⟩
 ·have e : ((l.drop lo).take (hi - lo)).length = hi - lo := by rw [List.length_take, List.length_drop]; omega
  rw [e]
  exact hp
 ·unfold cutS at hv
  simp only [Value.slice.injEq] at hv
  obtain ⟨h3, h4, -⟩ := hv
  have hl : 0 < l.length := by omega
  cases p with
  |none => split at h3 <;> simp at h3
  |some a =>
   obtain ⟨b0, o0, s0⟩ := a
   obtain ⟨b1, o1, c1, hv1, -⟩ := RowS.at_ h.row hl
   simp only [Value.slice.injEq, Option.some.injEq, Addr.mk.injEq] at hv1
   obtain ⟨⟨rfl, rfl, rfl⟩, -, -⟩ := hv1
   have hb : b0 = b := by
    split at h3
    ·simp only [Option.some.injEq, Addr.mk.injEq] at h3; exact h3.1
    ·simp only [Option.map_some, Option.some.injEq, Go.WideShapes.add_plain, Addr.mk.injEq] at h3; exact h3.1
   subst hb
   exact h.ty b0 o0 l.length cap rfl hl
theorem FrmsR.modsT {S : Nat → Prop} (h : FrmsR w base v l) (k : Mods S w w') (h1 : ∀ x, S x → ∀ cs fr, w.heap[x]? ≠ some (.cells cs 178 fr)) (h2 : ∀ x, S x → ∀ cs fr, w.heap[x]? ≠ some (.cells cs 5 fr)) : FrmsR w' base v l := by
 have hn : ∀ b off n cap, v = .slice (some ⟨b, off, none⟩) n cap → 0 < n → ¬ S b := fun b off n cap hv hp hs => by
  obtain ⟨cs, fr, hh⟩ := h.ty b off n cap hv hp
  exact h1 b hs cs fr hh
 refine ⟨⟨h.row.1, ?_⟩, fun x hx => (h.pay x hx).modsT k h2, h.len, fun b off n cap hv hp => ?_⟩
 ·rcases h.row.2 with h3 | ⟨b, off, cap, hv, g1, g2, g3⟩
  ·exact .inl h3
  ·by_cases hz : l.length = 0
   ·have : l = [] := List.eq_nil_of_length_eq_zero hz
    subst this
    exact .inr ⟨b, off, cap, hv, g1, g2, fun i x hx => by simp at hx⟩
   ·exact .inr ⟨b, off, cap, hv, g1, g2, fun i x hx => k.cell (g3 i x hx) (hn b off _ cap hv (by omega))⟩
 ·obtain ⟨cs, fr, hh⟩ := h.ty b off n cap hv hp
  exact ⟨cs, fr, k.heap hh (hn b off n cap hv hp)⟩
end
end Txl
end Go.Proofs.YtcleakjjefmmbaaGreat

/- envel.Read's variables in memory. -/
namespace Go.Proofs.YtcleakjjefmmbaaGreat
open Go.RowKit
namespace Env
open Adr (Str)
open Frm (ownsRow_keeps ownsRow_mods ownsRow_ne ownsRow_form ownsRow_ty rowS_lit Fr1 frC)
open Txl (FrmsR frM)
abbrev jobD (id arr : Int) (fl fd : Str) (vt vs vb : Value) : Array Value := #[.int .i64 id, .int .i64 arr, .string (bstr fl), .string (bstr fd), vt, vs, vb]
structure RdSt (w wr : World) (J base : Nat) (id arr : Int) (fl fd : Str) (vt : Value) (T : List TgP) (vs : Value) (S : List StP) (vb : Value) (body : Str) (fv : Value) (F : List (Fr1 × Value)) : Prop where
 job : Blk wr J 55 (jobD id arr fl fd vt vs vb)
 tos : wr.ownsRow w.heap.size 75 3 vt T.length (T.flatMap tgC)
 sts : wr.ownsRow w.heap.size 57 4 vs S.length (S.flatMap stC)
 fr : FrmsR wr base fv F
 bd : Piece wr base 5 vb (body.map u8v)
 keeps : Keeps w wr
 jw : w.heap.size ≤ J
theorem stok : ElemOkS Tryz.prog 52 57 4 32 := elemOkS (z := .agg #[.int .i64 0, .int .i64 0, .int .i64 0, .int .i64 0]) Tryz.underlying52 (by kernel_rfl) rfl
theorem blk_ty {w : World} {g : Nat} {t : TypeId} {cs : Array Value} (h : Blk w g t cs) {e : TypeId} (hne : t ≠ e) : ∀ ds fr, w.heap[g]? ≠ some (.cells ds e fr) := fun ds fr hh => by
 unfold Blk at h
 rw [h] at hh
 simp only [Option.some.injEq, Obj.cells.injEq] at hh
 exact hne hh.2.1
section
variable {w wr wr' : World} {J base : Nat} {id arr : Int} {fl fd : Str} {vt vs vb fv : Value} {T : List TgP} {S : List StP} {body : Str} {F : List (Fr1 × Value)}
theorem RdSt.kept (h : RdSt w wr J base id arr fl fd vt T vs S vb body fv F) (k : Keeps wr wr') : RdSt w wr' J base id arr fl fd vt T vs S vb body fv F :=
 ⟨h.job.keeps k, ownsRow_keeps h.tos k, ownsRow_keeps h.sts k, h.fr.keeps k, h.bd.keeps k, h.keeps.trans k, h.jw⟩
/-- the job's variable is written: other bytes -/
theorem RdSt.writeB (h : RdSt w wr J base id arr fl fd vt T vs S vb body fv F) {pv : Value} {m : Str} (hp : Piece wr base 5 pv (m.map u8v)) : RdSt w (wr.setCell ⟨J, 6, none⟩ pv) J base id arr fl fd vt T vs S pv m fv F := by
 have k : Mods (· = J) wr (wr.setCell ⟨J, 6, none⟩ pv) := (Mods.refl (· = J) wr).setCell (p := ⟨J, 6, none⟩) (fun _ => rfl) pv
 exact ⟨h.job.set_ 6 pv, ownsRow_mods h.tos k (fun x hx e => ownsRow_ne h.tos h.job (by decide) (by rw [hx, e])), ownsRow_mods h.sts k (fun x hx e => ownsRow_ne h.sts h.job (by decide) (by rw [hx, e])),
  h.fr.modsT k (fun x hx => by subst hx; exact blk_ty h.job (by decide)) (fun x hx => by subst hx; exact blk_ty h.job (by decide)), hp.modsT k (fun x hx => by subst hx; exact blk_ty h.job (by decide)), k.keeps h.keeps (fun x hx => by rw [hx]; exact h.jw), h.jw⟩
/-- behind an append of a state, with its store -/
theorem RdSt.grown (h : RdSt w wr J base id arr fl fd vt T vs S vb body fv F) {vs' : Value} {x : StP} {wa : World} (k : Keeps wr wa) (hg : wa.grownBy wr' vs.ownBlock) (ho : wr'.ownsRow w.heap.size 57 4 vs' (S.length + 1) (S.flatMap stC ++ stC x)) :
  RdSt w (wr'.setCell ⟨J, 5, none⟩ vs') J base id arr fl fd vt T vs' (S ++ [x]) vb body fv F := by
 have h1 := h.kept k
 have hM : Mods (fun x => vs.ownBlock = some x) wa wr' := (Mods.refl _ wa).grown hg (fun k hk _ => hk)
 have hnJ : vs.ownBlock ≠ some J := ownsRow_ne h1.sts h1.job (by decide)
 have hJ1 := h1.job.mods hM hnJ
 have hnJ' : vs'.ownBlock ≠ some J := ownsRow_ne ho hJ1 (by decide)
 have hM2 : Mods (· = J) wr' (wr'.setCell ⟨J, 5, none⟩ vs') := (Mods.refl (· = J) wr').setCell (p := ⟨J, 5, none⟩) (fun _ => rfl) vs'
 have hK1 : Keeps w wr' := hM.keeps h1.keeps (fun x hx => Frm.ownsRow_base h1.sts x hx)
 have hty : ∀ x, vs.ownBlock = some x → ∀ (e : TypeId), 57 ≠ e → ∀ ds fr, wa.heap[x]? ≠ some (.cells ds e fr) := fun x hx e hne => ownsRow_ty h1.sts hne x hx
 have ht1 : wr'.ownsRow w.heap.size 75 3 vt T.length (T.flatMap tgC) := ownsRow_mods h1.tos hM (fun x hx hs => by
  rcases h1.tos.2 with ⟨rfl, _⟩ | ⟨g, cap, cur, rfl, hb, hgg, _⟩
  ·simp [Value.ownBlock] at hx
  ·simp [Value.ownBlock] at hx
   subst hx
   exact hty _ hs 75 (by decide) _ _ hgg)
 have hf1 := h1.fr.modsT hM (fun x hx => hty x hx _ (by decide)) (fun x hx => hty x hx _ (by decide))
 have hb1 := h1.bd.modsT hM (fun x hx => hty x hx _ (by decide))
 refine ⟨hJ1.set_ 5 vs', ownsRow_mods ht1 hM2 (fun x hx e => ownsRow_ne ht1 hJ1 (by decide) (by rw [hx, e])), ?_,
  hf1.modsT hM2 (fun x hx => by subst hx; exact blk_ty hJ1 (by decide)) (fun x hx => by subst hx; exact blk_ty hJ1 (by decide)), hb1.modsT hM2 (fun x hx => by subst hx; exact blk_ty hJ1 (by decide)), hM2.keeps hK1 (fun x hx => by rw [hx]; exact h.jw), h.jw⟩
 have := ownsRow_mods ho hM2 (fun x hx e => hnJ' (by rw [hx, e]))
 simpa using this
theorem flat_set4 (S : List StP) (k : Nat) (hk : k < S.length) (s t d c : Int) : ((((S.flatMap stC).set (k * 4) (.int .i64 s)).set (k * 4 + 1) (.int .i64 t)).set (k * 4 + 2) (.int .i64 d)).set (k * 4 + 3) (.int .i64 c) = (S.set k ⟨s, t, d, c⟩).flatMap stC := by
 have hl : (S.flatMap stC).length = S.length * 4 := flat_len stC_len S
 apply List.ext_getElem?
 intro i
 by_cases hi : i < S.length * 4
 ·obtain ⟨q, r, rfl, hr⟩ : ∃ q r, i = q * 4 + r ∧ r < 4 := ⟨i / 4, i % 4, by omega, by omega⟩
  have hq : q < S.length := by omega
  by_cases hqk : q = k
  ·subst hqk
   rw [flat_get stC_len (S.set q ⟨s, t, d, c⟩) q r ⟨s, t, d, c⟩ (by rw [List.getElem?_set_self hq]) hr]
   have : r = 0 ∨ r = 1 ∨ r = 2 ∨ r = 3 := by omega
   rcases this with rfl | rfl | rfl | rfl
   ·rw [List.getElem?_set_ne (by omega), List.getElem?_set_ne (by omega), List.getElem?_set_ne (by omega), Nat.add_zero, List.getElem?_set_self (by omega)]; rfl
   ·rw [List.getElem?_set_ne (by omega), List.getElem?_set_ne (by omega), List.getElem?_set_self (by simp only [List.length_set]; omega)]; rfl
   ·rw [List.getElem?_set_ne (by omega), List.getElem?_set_self (by simp only [List.length_set]; omega)]; rfl
   ·rw [List.getElem?_set_self (by simp only [List.length_set]; omega)]; rfl
  ·rw [flat_get stC_len (S.set k ⟨s, t, d, c⟩) q r S[q] (by rw [List.getElem?_set_ne (fun e => hqk e.symm), List.getElem?_eq_getElem hq]) hr]
   rw [List.getElem?_set_ne (by omega), List.getElem?_set_ne (by omega), List.getElem?_set_ne (by omega), List.getElem?_set_ne (by omega)]
   exact flat_get stC_len S q r S[q] (List.getElem?_eq_getElem hq) hr
 ·rw [List.getElem?_eq_none (by simp only [List.length_set]; omega), List.getElem?_eq_none (by rw [flat_len stC_len, List.length_set]; omega)]
/-- a state is written in its place -/
theorem RdSt.setS {sb cap : Nat} (h : RdSt w wr J base id arr fl fd vt T (.slice (some ⟨sb, 0, none⟩) S.length cap) S vb body fv F) (k : Nat) (hk : k < S.length) (s t d c : Int) :
  RdSt w ((((wr.setCell ⟨sb, k * 4, none⟩ (.int .i64 s)).setCell ⟨sb, k * 4 + 1, none⟩ (.int .i64 t)).setCell ⟨sb, k * 4 + 2, none⟩ (.int .i64 d)).setCell ⟨sb, k * 4 + 3, none⟩ (.int .i64 c)) J base id arr fl fd vt T (.slice (some ⟨sb, 0, none⟩) S.length cap) (S.set k ⟨s, t, d, c⟩) vb body fv F := by
 have hM : Mods (· = sb) wr ((((wr.setCell ⟨sb, k * 4, none⟩ (.int .i64 s)).setCell ⟨sb, k * 4 + 1, none⟩ (.int .i64 t)).setCell ⟨sb, k * 4 + 2, none⟩ (.int .i64 d)).setCell ⟨sb, k * 4 + 3, none⟩ (.int .i64 c)) :=
  ((((Mods.refl (· = sb) wr).setCell (p := ⟨sb, k * 4, none⟩) (fun _ => rfl) _).setCell (p := ⟨sb, k * 4 + 1, none⟩) (fun _ => rfl) _).setCell (p := ⟨sb, k * 4 + 2, none⟩) (fun _ => rfl) _).setCell (p := ⟨sb, k * 4 + 3, none⟩) (fun _ => rfl) _
 have hob : (Value.slice (some ⟨sb, 0, none⟩) S.length cap).ownBlock = some sb := rfl
 have hty : ∀ (e : TypeId), 57 ≠ e → ∀ ds fr, wr.heap[sb]? ≠ some (.cells ds e fr) := fun e hne => ownsRow_ty h.sts hne sb hob
 have hnJ : J ≠ sb := fun e => ownsRow_ne h.sts h.job (by decide) (by rw [e]; rfl)
 refine ⟨h.job.mods hM hnJ, ownsRow_mods h.tos hM (fun x hx hs => ?_), ?_, h.fr.modsT hM (fun x hx => by subst hx; exact hty _ (by decide)) (fun x hx => by subst hx; exact hty _ (by decide)), h.bd.modsT hM (fun x hx => by subst hx; exact hty _ (by decide)), hM.keeps h.keeps (fun x hx => by subst hx; exact Frm.ownsRow_base h.sts _ hob), h.jw⟩
 ·subst hs
  rcases h.tos.2 with ⟨rfl, _⟩ | ⟨g, cap, cur, rfl, hb, hgg, _⟩
  ·simp [Value.ownBlock] at hx
  ·simp [Value.ownBlock] at hx
   subst hx
   exact hty 75 (by decide) _ _ hgg
 ·have := (World.ownsRow.stored (World.ownsRow.stored (World.ownsRow.stored (World.ownsRow.stored h.sts (k * 4) (.int .i64 s)).1 (k * 4 + 1) (.int .i64 t)).1 (k * 4 + 2) (.int .i64 d)).1 (k * 4 + 3) (.int .i64 c)).1
  rw [flat_set4 S k hk] at this
  rw [List.length_set]
  exact this
theorem RdSt.setS1 {sb cap n : Nat} (h : RdSt w wr J base id arr fl fd vt T (.slice (some ⟨sb, 0, none⟩) n cap) S vb body fv F) (hn : n = S.length) (k : Nat) (hk : k < S.length) (s t d c : Int) :
  RdSt w ((((wr.setCell ⟨sb, k * 4, none⟩ (.int .i64 s)).setCell ⟨sb, k * 4 + 1, none⟩ (.int .i64 t)).setCell ⟨sb, k * 4 + 2, none⟩ (.int .i64 d)).setCell ⟨sb, k * 4 + 3, none⟩ (.int .i64 c)) J base id arr fl fd vt T (.slice (some ⟨sb, 0, none⟩) n cap) (S.set k ⟨s, t, d, c⟩) vb body fv F := by
 subst hn
 exact h.setS k hk s t d c
end
end Env
end Go.Proofs.YtcleakjjefmmbaaGreat

/- The transactions of frames, plain. -/
namespace Go.Proofs.YtcleakjjefmmbaaGreat
open Go.RowKit
namespace Txl
open Oct Frm
def lenS (fs : List Fr1) : Int := (fs.map (·.len)).sum
theorem lenS_cons (f : Fr1) (fs : List Fr1) : lenS (f :: fs) = f.len + lenS fs := by simp [lenS]
theorem lenS_nn {fs : List Fr1} (h : ∀ f ∈ fs, 0 ≤ f.len) : 0 ≤ lenS fs := by
 induction fs with
 |nil => simp [lenS]
 |cons f fs ih =>
  rw [lenS_cons]
  have h1 := h f (List.mem_cons_self ..)
  have h2 := ih (fun x hx => h x (List.mem_cons_of_mem _ hx))
  omega
/-- what a row of frames has -/
theorem rowN_all (l : List UInt8) : ∀ (k u : Nat), u ≤ l.length → (∀ f ∈ (rowN l k u).1, 0 ≤ f.len ∧ f.pay.length ≤ l.length) ∧ (u : Int) + lenS (rowN l k u).1 = ((rowN l k u).2.1 : Int) ∧ (rowN l k u).2.1 ≤ l.length ∧ (rowN l k u).1.length + u ≤ (rowN l k u).2.1
 | 0, u, h => by simp [rowN, lenS, h]
 |k + 1, u, h => by
  by_cases hu : u < l.length
  ·by_cases he : atE l u = 0
   ·obtain ⟨h1, h2, h3⟩ := atE_len he
    have hp := atE_pay he
    obtain ⟨m, hm⟩ := Int.eq_ofNat_of_zero_le h3
    rw [rowN_ok hu he]
    have hm2 : (atF l u).len.toNat = m := by omega
    rw [hm2]
    obtain ⟨i1, i2, i3, i4⟩ := rowN_all l k (u + m) (by omega)
    refine ⟨?_, ?_, i3, ?_⟩
    ·intro f hf
     rcases List.mem_cons.1 hf with rfl | hf
     ·exact ⟨h3, hp⟩
     ·exact i1 f hf
    ·rw [lenS_cons]
     simp only at i2 ⊢
     omega
    ·simp only [List.length_cons]
     omega
   ·rw [rowN_err hu he]
    simp [lenS, h]
  ·rw [rowN_end hu]
   simp [lenS, h]
theorem rowR_all (l : List UInt8) : (∀ f ∈ (rowR l).1, 0 ≤ f.len ∧ f.pay.length ≤ l.length) ∧ lenS (rowR l).1 ≤ (l.length : Int) ∧ (rowR l).1.length ≤ l.length := by
 obtain ⟨h1, h2, h3, h4⟩ := rowN_all l l.length 0 (Nat.zero_le _)
 refine ⟨h1, ?_, ?_⟩
 ·show lenS (rowN l l.length 0).1 ≤ _
  omega
 ·show (rowN l l.length 0).1.length ≤ _
  omega
end Txl
end Go.Proofs.YtcleakjjefmmbaaGreat

/- envel.env: the payload of a job's first frame. -/
namespace Go.Proofs.YtcleakjjefmmbaaGreat
open Go.RowKit
namespace Env
open Adr (goodB Str)
open Oct (be putL putB okk textL SinkAt sinkBytes_any be_length RetS)
open Frm (Sole RetSI wrap_any wrapL wrapE)
theorem goodB_len {l d : Str} (h : goodB l d = true) : l.length ≤ 64 ∧ d.length ≤ 64 := by
 simp [goodB, Adr.domainB] at h
 omega
theorem tgsB_all : ∀ (l : List TgP) (p : List Int), tgsB p l = true → ∀ t ∈ l, tgB t = true
 | [], _, _, t, ht => by simp at ht
 |a :: l, p, h, t, ht => by
  simp only [tgsB, Bool.and_eq_true] at h
  rcases List.mem_cons.1 ht with rfl | ht
  ·exact h.1.2
  ·exact tgsB_all l _ h.2 t ht
/-- a right job in numbers -/
structure JobN (j : JobP) (n m : Nat) : Prop where
 id : j.id = n
 arr : j.arr = m
 id1 : 1 ≤ n ∧ n ≤ 1099511627776
 arr1 : m ≤ 4503599627370496
 fr : j.fl.length ≤ 64 ∧ j.fd.length ≤ 64
 cnt : 1 ≤ j.tos.length ∧ j.tos.length ≤ 20
 all : ∀ t ∈ j.tos, (∃ u : Nat, t.u = u ∧ 1 ≤ u ∧ u ≤ 999) ∧ t.l.length ≤ 64 ∧ t.d.length ≤ 64
theorem envB_nat {j : JobP} (h : envB j = true) : ∃ n m : Nat, JobN j n m := by
 have hx : (((inB j.id 1 1099511627776 = true ∧ inB j.arr 0 4503599627370496 = true) ∧ inB j.tos.length 1 20 = true) ∧ fromB j = true) ∧ tgsB [] j.tos = true := by
  simpa only [envB, maxT, Bool.and_eq_true] using h
 obtain ⟨⟨⟨⟨h1, h2⟩, h3⟩, h4⟩, h5⟩ := hx
 simp only [inB, Bool.and_eq_true, decide_eq_true_eq] at h1 h2 h3
 obtain ⟨n, hn⟩ := Int.eq_ofNat_of_zero_le (show 0 ≤ j.id by omega)
 obtain ⟨m, hm⟩ := Int.eq_ofNat_of_zero_le h2.1
 refine ⟨n, m, hn, hm, by omega, by omega, ?_, by omega, fun t ht => ?_⟩
 ·rw [fromB, Bool.or_eq_true, Bool.and_eq_true, decide_eq_true_eq, decide_eq_true_eq] at h4
  rcases h4 with ⟨h, h'⟩ | h
  ·rw [h, h']; simp
  ·exact goodB_len h
 ·have := tgsB_all _ _ h5 t ht
  rw [tgB, Bool.and_eq_true] at this
  have h6 := this.1
  simp only [inB, Bool.and_eq_true, decide_eq_true_eq] at h6
  obtain ⟨u, hu⟩ := Int.eq_ofNat_of_zero_le (show 0 ≤ t.u by omega)
  exact ⟨⟨u, hu, by omega, by omega⟩, goodB_len this.2⟩
theorem textB_len (s : Str) : (textB s).length = 4 + s.length := by simp [textB, be_length]
theorem tgs_len {l : List TgP} (h : ∀ t ∈ l, t.l.length ≤ 64 ∧ t.d.length ≤ 64) : (l.flatMap tgL).length ≤ 138 * l.length := by
 induction l with
 |nil => simp
 |cons t l ih =>
  have h1 := ih (fun x hx => h x (List.mem_cons_of_mem _ hx))
  have h2 := h t (List.mem_cons_self ..)
  simp only [List.flatMap_cons, List.length_append, List.length_cons, tgL, be_length, textB_len]
  omega
set_option maxRecDepth 100000 in
set_option maxHeartbeats 2000000 in
theorem env_any (w : World) (j : JobP) (vt vs vb : Value) (h : JobAt w j vt vs vb) (n m : Nat) (hn : JobN j n m) : Calls Tryz.prog 120 #[.agg (jobA j vt vs vb)] w (RetS w (envL j)) := by
 obtain ⟨pt, ct, rfl, hct1, hct2⟩ := h.tos.form
 obtain ⟨id, arr, fl, fd, tos, st, body⟩ := j
 obtain ⟨rfl, rfl, ⟨hn1, hn2⟩, hm1, ⟨hf1, hf2⟩, ⟨hc1, hc2⟩, hall⟩ := hn
 simp only at *
 have HT := Lib.hid h.tos
 have HA := Lib.hid hall
 have HX := Lib.hid (show (((([] ++ be 8 n) ++ be 8 m) ++ textB fl) ++ textB fd ++ be 1 tos.length) ++ tos.flatMap tgL = envL ⟨n, m, fl, fd, tos, st, body⟩ from rfl)
 have HLH := Lib.hid (show (((([] ++ be 8 n) ++ be 8 m) ++ textB fl) ++ textB fd ++ be 1 tos.length).length ≤ 153 from by simp [be_length, textB_len]; omega)
 have HB := Lib.hid (Blk.new w 55 (jobA ⟨n, m, fl, fd, tos, st, body⟩ (.slice pt tos.length ct) vs vb) rfl)
 have HK := Lib.hid ((Keeps.refl w).alloc (.cells (jobA ⟨n, m, fl, fd, tos, st, body⟩ (.slice pt tos.length ct) vs vb) 55))
 have hwn : IntKind.u64.wrap (n : Int) = (n : Int) := by rw [IntKind.wrap_u64]; omega
 have hwm : IntKind.u64.wrap (m : Int) = (m : Int) := by rw [IntKind.wrap_u64]; omega
 have hwt : IntKind.u64.wrap (tos.length : Int) = (tos.length : Int) := by rw [IntKind.wrap_u64]; omega
 clear h hall
 generalize envL ⟨n, m, fl, fd, tos, st, body⟩ = L at *
 go_enter Tryz.func120, Tryz.ntmps120
 go_wp2_with fail
 refine (soleNew _).mono ?_
 rintro e w1 ⟨g, rfl, hg, hso⟩
 have HTW := Lib.hid (HT.out.keeps HK.out)
 have HWS := Lib.hid HK.out.size
 generalize w.alloc (.cells (jobA ⟨n, m, fl, fd, tos, st, body⟩ (.slice pt tos.length ct) vs vb) 55) = w0 at *
 generalize hb : w.heap.size = b at *
 have HBB := Lib.hid hb
 clear hb
 have HS1 := Lib.hid hso
 have c0 : w1.cell? ⟨b, 0, none⟩ = some (.int .i64 (n : Int)) := by rw [(HB.out.keeps HS1.out.keeps).cell]; rfl
 clear hso
 go_wp2_with fail
 refine (soleU HS1.out n 8 8 rfl (by omega) (by omega) (by simp [be_length])).mono ?_
 rintro e w2 ⟨v2, rfl, hso, -⟩
 have HS2 := Lib.hid hso
 have c1 : w2.cell? ⟨b, 1, none⟩ = some (.int .i64 (m : Int)) := by rw [(HB.out.keeps HS2.out.keeps).cell]; rfl
 clear hso c0
 go_wp2_with fail
 refine (soleU HS2.out m 8 8 rfl (by omega) (by omega) (by simp [be_length])).mono ?_
 rintro e w3 ⟨v3, rfl, hso, -⟩
 have HS3 := Lib.hid hso
 have c2 : w3.cell? ⟨b, 2, none⟩ = some (.string (bstr fl)) := by rw [(HB.out.keeps HS3.out.keeps).cell]; rfl
 clear hso c1
 go_wp2_with fail
 refine (soleText HS3.out fl (by omega) (by simp [be_length])).mono ?_
 rintro e w4 ⟨v4, rfl, hso, -⟩
 have HS4 := Lib.hid hso
 have c3 : w4.cell? ⟨b, 3, none⟩ = some (.string (bstr fd)) := by rw [(HB.out.keeps HS4.out.keeps).cell]; rfl
 clear hso c2
 go_wp2_with fail
 refine (soleText HS4.out fd (by omega) (by simp [be_length, textB_len]; omega)).mono ?_
 rintro e w5 ⟨v5, rfl, hso, -⟩
 have HS5 := Lib.hid hso
 have c4 : w5.cell? ⟨b, 4, none⟩ = some (.slice pt tos.length ct) := by rw [(HB.out.keeps HS5.out.keeps).cell]; rfl
 clear hso c3
 go_wp2_with fail
 refine (soleU HS5.out tos.length 1 1 rfl (by omega) (by omega) (by simp [be_length, textB_len]; omega)).mono ?_
 rintro e w6 ⟨v6, rfl, hso, -⟩
 have HS6 := Lib.hid hso
 have c4' : w6.cell? ⟨b, 4, none⟩ = some (.slice pt tos.length ct) := by rw [(HB.out.keeps HS6.out.keeps).cell]; rfl
 clear hso c4
 generalize (((([] ++ be 8 n) ++ be 8 m) ++ textB fl) ++ textB fd ++ be 1 tos.length) = hd at *
 go_wp2_with fail
 clear c4'
 go_loopw [36] (fun iv wr => ∃ (i : Nat) (v : Value), iv = .int .i64 (i : Int) ∧ i ≤ tos.length ∧ Hid (Sole w0 wr g v (hd ++ (tos.take i).flatMap tgL))) (fun iv _ => tos.length - (intOf iv).toNat)
 case atStart => exact ⟨0, v6, rfl, Nat.zero_le _, Lib.hid (by simpa using HS6.out)⟩
 case round =>
  obtain ⟨i, v, rfl, hi, HS⟩ := hrel
  by_cases hlt : i < tos.length
  ·have hw : IntKind.i64.wrap ((i : Int) + 1) = (i : Int) + 1 := IntWalk.i64_in _ (by omega)
   obtain ⟨b2, off, cap, hv, hrg⟩ := rowS_at tgC_len (HTW.out.keeps HS.out.keeps) hlt
   simp only [Value.slice.injEq] at hv
   obtain ⟨rfl, -, rfl⟩ := hv
   obtain ⟨⟨u, hu, hu1, hu2⟩, hl1, hl2⟩ := HA.out _ (List.getElem_mem hlt)
   have HN := Lib.hid (show ((hd ++ (tos.take i).flatMap tgL) ++ be 2 tos[i].u.toNat ++ textB tos[i].l ++ textB tos[i].d) = hd ++ (tos.take (i + 1)).flatMap tgL from by
    rw [List.take_succ_eq_append_getElem hlt, List.flatMap_append]
    simp [tgL])
   have hlen : (hd ++ (tos.take i).flatMap tgL).length ≤ 3000 := by
    have h1 := tgs_len (l := tos.take i) (fun t ht => (HA.out t (List.mem_of_mem_take ht)).2)
    have h2 := HLH.out
    rw [List.length_append]
    rw [List.length_take] at h1
    omega
   generalize hd ++ (tos.take i).flatMap tgL = L1 at *
   generalize hL2 : hd ++ (tos.take (i + 1)).flatMap tgL = L2 at *
   have HL2 := Lib.hid hL2
   clear hL2
   generalize tos[i] = t at *
   obtain ⟨ut, tl, td⟩ := t
   simp only at hu hl1 hl2
   subst hu
   have HRG := Lib.hid (show wr.rangeAt b2 (off + i * 3) [.int .i64 (u : Int), .string (bstr tl), .string (bstr td)] from hrg)
   have hwu : IntKind.u64.wrap (u : Int) = (u : Int) := by rw [IntKind.wrap_u64]; omega
   clear hrg
   go_upto_region 10 with (refine wpList_ldR rfl tgM HRG.out _ rfl rfl ?_)
   generalize hW : World.alloc wr _ = y1
   have HKy := Lib.hid (show Keeps wr y1 from by rw [← hW]; exact (Keeps.refl _).alloc _)
   have HFy := Lib.hid (show Blk y1 wr.heap.size 75 #[.int .i64 (u : Int), .string (bstr tl), .string (bstr td)] from by rw [← hW]; exact Blk.new _ _ _ rfl)
   clear hW HRG
   have HSy := Lib.hid (HS.out.kept HKy.out)
   obtain ⟨q, hq⟩ : ∃ q, q = wr.heap.size := ⟨_, rfl⟩
   rw [← hq] at HFy ⊢
   have hqg : ∀ x, Oct.Fr g v x → x ≠ q := fun x hx e => by have := HS.out.sink.lt x hx; omega
   clear hq HKy HS
   have q0 : y1.cell? ⟨q, 0, none⟩ = some (.int .i64 (u : Int)) := by rw [HFy.out.cell]; rfl
   go_wp2_with fail
   refine (soleU HSy.out u 2 2 rfl (by omega) (by omega) (by omega)).mono ?_
   rintro e y2 ⟨x2, rfl, hso, hap⟩
   obtain ⟨hB2, hq2⟩ := hap q _ _ HFy.out hqg
   have HSz := Lib.hid hso
   have HFz := Lib.hid hB2
   have q1 : y2.cell? ⟨q, 1, none⟩ = some (.string (bstr tl)) := by rw [HFz.out.cell]; rfl
   clear hso hap hB2 q0
   go_wp2_with fail
   refine (soleText HSz.out tl (by omega) (by simp [be_length]; omega)).mono ?_
   rintro e y3 ⟨x3, rfl, hso, hap⟩
   obtain ⟨hB3, hq3⟩ := hap q _ _ HFz.out hq2
   have HSu := Lib.hid hso
   have HFu := Lib.hid hB3
   have q2 : y3.cell? ⟨q, 2, none⟩ = some (.string (bstr td)) := by rw [HFu.out.cell]; rfl
   clear hso hap hB3 q1
   go_wp2_with fail
   refine (soleText HSu.out td (by omega) (by simp [be_length, textB_len]; omega)).mono ?_
   rintro e y4 ⟨x4, rfl, hso, -⟩
   have HSv := Lib.hid (show Sole w0 y4 g x4 L2 from by rw [← HN.out]; simpa using hso)
   clear hso q2
   go_wp2_with fail
   go_roundw
   case rel => exact ⟨i + 1, x4, by simp, by omega, Lib.hid (by rw [HL2.out]; exact HSv.out)⟩
   case measure =>
    simp only [intOf]
    omega
  ·have hie : i = tos.length := by omega
   have HL := Lib.hid (show hd ++ (tos.take i).flatMap tgL = L from by rw [List.take_of_length_le (by omega)]; exact HX.out)
   have hlen : L.length ≤ 3000 := by
    have h1 := tgs_len (l := tos) (fun t ht => (HA.out t ht).2)
    have h2 := HLH.out
    rw [← HX.out, List.length_append]
    omega
   rw [HL.out] at HS
   clear hie
   go_wp2_with fail
   refine (sinkBytes_any g v _ wr HS.out.sink (by omega)).mono ?_
   rintro e w7 ⟨v7, rfl, ho, hk⟩
   have HO := Lib.hid (ho.lower (Nat.le_trans HWS.out HS.out.keeps.size))
   have HKK := Lib.hid (HK.out.trans (HS.out.keeps.trans hk))
   clear ho hk
   go_wp2_with fail
   go_ret
   exact ⟨v7, rfl, by rw [HBB.out]; exact HO.out, HKK.out⟩
end Env
end Go.Proofs.YtcleakjjefmmbaaGreat
