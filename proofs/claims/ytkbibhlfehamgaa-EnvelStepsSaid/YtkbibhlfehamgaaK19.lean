/- Several texts in one: EnStep, EnRdMem, EnRdEnv. -/
import Derived.Test.YtkbibhlfehamgaaK18
import Derived.Test.YtkbibhlfehamgaaK17
import Derived.Test.YtkbibhlfehamgaaK13
/- envel.readStep. Printed by gen_enread.py. -/
namespace Go.Proofs.Ytkbibhlfehamgaa
open Go.RowKit
namespace Env
open Adr (Str)
theorem capI_if (v : Nat) : (if (4503599627370497 : Int) < (v : Int) then (4503599627370497 : Int) else (v : Int)) = capI capT v := by
 unfold capI capT
 split <;> split <;> omega
theorem capI_le (v : Nat) : 0 ≤ capI capT v ∧ capI capT v ≤ 4503599627370497 := by
 unfold capI capT
 split <;> omega
/-- one block may change, and holds these cells -/
def HB1 (t : TypeId) (X : Nat) (cs : Array Value) (y w : World) : Prop := Mods (· = X) y w ∧ Blk w X t cs
theorem HB1.keeps {t : TypeId} {X : Nat} {cs : Array Value} {y w w' : World} (h : HB1 t X cs y w) (k : Keeps w w') : HB1 t X cs y w' := ⟨h.1.then k, h.2.keeps k⟩
def StepRet (W : World) (l : Str) (n : Nat) (e : Ending) (w' : World) : Prop :=
 e = .returned (.tuple #[.int .i64 ((stR capT l).1.1 : Nat), .agg (stA (stR capT l).1.2), .bool (stOk (stR capT l) l n)]) ∧ Keeps W w'
set_option maxRecDepth 100000 in
set_option maxHeartbeats 2000000 in
theorem readStep_any (w : World) (v : Value) (l : Str) (n : Nat) (hr : Row w v (l.map u8v)) (hl : l.length ≤ 35184372088832) (hn : n ≤ 1000000) : Calls Try.prog 19 #[v, .int .i64 (n : Int)] w (StepRet w l n) := by
 have HR := Lib.hid (hr.keeps ((Keeps.refl w).alloc (.cells #[.int .i64 0, .int .i64 0, .int .i64 0, .int .i64 0] 44)))
 have HX := Lib.hid (Blk.new w 44 #[.int .i64 0, .int .i64 0, .int .i64 0, .int .i64 0] rfl)
 have HK := Lib.hid ((Keeps.refl w).alloc (.cells #[.int .i64 0, .int .i64 0, .int .i64 0, .int .i64 0] 44))
 obtain ⟨pv, nv, cv, rfl⟩ : ∃ p n c, v = .slice p n c := let ⟨p, c, h, _⟩ := hr.form; ⟨p, _, c, h⟩
 clear hr
 have ha := uR_lt l 1 (by omega) (some 0)
 generalize hxa : (uR l 1 (some 0)).1 = xa at *
 generalize hsa : (uR l 1 (some 0)).2 = sa at *
 have hb := uR_lt l 1 (by omega) (sa)
 generalize hxb : (uR l 1 (sa)).1 = xb at *
 generalize hsb : (uR l 1 (sa)).2 = sb at *
 have hd := uR_lt l 2 (by omega) (sb)
 generalize hxd : (uR l 2 (sb)).1 = xd at *
 generalize hsd : (uR l 2 (sb)).2 = sd at *
 have he := uR_lt l 8 (by omega) (sd)
 generalize hxe : (uR l 8 (sd)).1 = xe at *
 generalize hse : (uR l 8 (sd)).2 = se at *
 have hf := uR_lt l 2 (by omega) (se)
 generalize hxf : (uR l 2 (se)).1 = xf at *
 generalize hsf : (uR l 2 (se)).2 = sf at *
 simp only [Nat.reducePow] at ha hb hd he hf
 have HE := Lib.hid (And.intro hxa (And.intro hsa (And.intro hxb (And.intro hsb (And.intro hxd (And.intro hsd (And.intro hxe (And.intro hse (And.intro hxf hsf)))))))))
 obtain ⟨ce, hce⟩ : ∃ c, capI capT xe = c := ⟨_, rfl⟩
 have hcl := capI_le xe
 have hci := capI_if xe
 rw [hce] at hcl hci
 have HS := Lib.hid (show stR capT l = ((xa, ⟨(xb : Int), (xd : Int), ce, (xf : Int)⟩), sf) from by
  unfold stR
  simp only [hxa, hsa, hxb, hsb, hxd, hsd, hxe, hse, hxf, hsf, hce])
 clear hxa hsa hxb hsb hxd hsd hxe hse hxf hsf hce
 have wa : IntKind.i64.wrap (xa : Int) = (xa : Int) := IntWalk.i64_in _ (by omega)
 have wb : IntKind.i64.wrap (xb : Int) = (xb : Int) := IntWalk.i64_in _ (by omega)
 have wd : IntKind.i64.wrap (xd : Int) = (xd : Int) := IntWalk.i64_in _ (by omega)
 have we : IntKind.i64.wrap ce = ce := IntWalk.i64_in _ (by omega)
 have wf : IntKind.i64.wrap (xf : Int) = (xf : Int) := IntWalk.i64_in _ (by omega)
 unfold StepRet
 rw [HS.out]
 have HO := Lib.hid (show stOk ((xa, ⟨(xb : Int), (xd : Int), ce, (xf : Int)⟩), sf) l n = (decide (sf = some l.length) && decide (xa < n) && goodStB ⟨(xb : Int), (xd : Int), ce, (xf : Int)⟩) from rfl)
 obtain ⟨ok, hok⟩ : ∃ b, stOk ((xa, ⟨(xb : Int), (xd : Int), ce, (xf : Int)⟩), sf) l n = b := ⟨_, rfl⟩
 rw [hok] at HO ⊢
 clear hok
 go_enter Try.func19, Try.ntmps19
 go_wp2_with fail
 refine (srcONew _ l HR.out hl).mono ?_
 rintro e z0 ⟨g, rfl, hso⟩
 have HXG := Lib.hid (show w.heap.size ≠ g from fun e => by
  have h1 := hso.ge
  have h2 := HX.out.lt
  omega)
 have HX0 := Lib.hid (HX.out.keeps hso.keepsW)
 generalize w.alloc (.cells #[.int .i64 0, .int .i64 0, .int .i64 0, .int .i64 0] 44) = w1 at *
 have HS0 := Lib.hid hso
 generalize hX : w.heap.size = X at *
 have HXX := Lib.hid hX
 clear hso hX HX HR
 go_wp2_with fail
 refine (srcOU HS0.out 1 1 rfl (by omega)).mono ?_
 rintro e z1 ⟨rfl, hso, hm⟩
 rw [HE.out.2.1] at hso
 rw [HE.out.1]
 have HS1 := Lib.hid hso
 have HX1 := Lib.hid (HX0.out.mods hm HXG.out)
 clear hso hm HS0 HX0
 go_wp2_with fail
 refine (srcOU HS1.out 1 1 rfl (by omega)).mono ?_
 rintro e z2 ⟨rfl, hso, hm⟩
 rw [HE.out.2.2.2.1] at hso
 rw [HE.out.2.2.1]
 have HS2 := Lib.hid hso
 have HX2 := Lib.hid (HX1.out.mods hm HXG.out)
 clear hso hm HS1 HX1
 go_wp2_with fail
 refine (srcOU HS2.out 2 2 rfl (by omega)).mono ?_
 rintro e z3 ⟨rfl, hso, hm⟩
 rw [HE.out.2.2.2.2.2.1] at hso
 rw [HE.out.2.2.2.2.1]
 have HS3 := Lib.hid hso
 have HX3 := Lib.hid (HX2.out.mods hm HXG.out)
 clear hso hm HS2 HX2
 go_wp2_with fail
 refine (srcOU HS3.out 8 8 rfl (by omega)).mono ?_
 rintro e z4 ⟨rfl, hso, hm⟩
 rw [HE.out.2.2.2.2.2.2.2.1] at hso
 rw [HE.out.2.2.2.2.2.2.1]
 have HS4 := Lib.hid hso
 have HX4 := Lib.hid (HX3.out.mods hm HXG.out)
 clear hso hm HS3 HX3
 go_wp2_with fail
 refine (srcOU HS4.out 2 2 rfl (by omega)).mono ?_
 rintro e z5 ⟨rfl, hso, hm⟩
 rw [HE.out.2.2.2.2.2.2.2.2.2] at hso
 rw [HE.out.2.2.2.2.2.2.2.2.1]
 have HS5 := Lib.hid hso
 have HX5 := Lib.hid (HX4.out.mods hm HXG.out)
 clear hso hm HS4 HX4
 have r0 : z5.cell? ⟨X, 0, none⟩ = some (.int .i64 0) := by rw [HX5.out.cell]; rfl
 have r1 : z5.cell? ⟨X, 1, none⟩ = some (.int .i64 0) := by rw [HX5.out.cell]; rfl
 have r2 : z5.cell? ⟨X, 2, none⟩ = some (.int .i64 0) := by rw [HX5.out.cell]; rfl
 have r3 : z5.cell? ⟨X, 3, none⟩ = some (.int .i64 0) := by rw [HX5.out.cell]; rfl
 have f0 : z5.frozen? ⟨X, 0, none⟩ = false := HX5.out.frozen _
 have f1 : z5.frozen? ⟨X, 1, none⟩ = false := HX5.out.frozen _
 have f2 : z5.frozen? ⟨X, 2, none⟩ = false := HX5.out.frozen _
 have f3 : z5.frozen? ⟨X, 3, none⟩ = false := HX5.out.frozen _
 have HXc := Lib.hid (show Blk ((((z5.setCell ⟨X, 0, none⟩ (.int .i64 (xb : Int))).setCell ⟨X, 1, none⟩ (.int .i64 (xd : Int))).setCell ⟨X, 2, none⟩ (.int .i64 ce)).setCell ⟨X, 3, none⟩ (.int .i64 (xf : Int))) X 44 (stA ⟨(xb : Int), (xd : Int), ce, (xf : Int)⟩) from (((HX5.out.set_ 0 _).set_ 1 _).set_ 2 _).set_ 3 _)
 have HMc := Lib.hid (show Mods (· = X) z5 ((((z5.setCell ⟨X, 0, none⟩ (.int .i64 (xb : Int))).setCell ⟨X, 1, none⟩ (.int .i64 (xd : Int))).setCell ⟨X, 2, none⟩ (.int .i64 ce)).setCell ⟨X, 3, none⟩ (.int .i64 (xf : Int))) from ((((Mods.refl (· = X) z5).setCell (p := ⟨X, 0, none⟩) (fun _ => rfl) _).setCell (p := ⟨X, 1, none⟩) (fun _ => rfl) _).setCell (p := ⟨X, 2, none⟩) (fun _ => rfl) _).setCell (p := ⟨X, 3, none⟩) (fun _ => rfl) _)
 have HKz := Lib.hid (HK.out.trans HS5.out.keepsW)
 go_wp2_with fail
 generalize ((((z5.setCell ⟨X, 0, none⟩ (.int .i64 (xb : Int))).setCell ⟨X, 1, none⟩ (.int .i64 (xd : Int))).setCell ⟨X, 2, none⟩ (.int .i64 ce)).setCell ⟨X, 3, none⟩ (.int .i64 (xf : Int))) = y at *
 have HSy := Lib.hid (HS5.out.core.mods HMc.out (fun x hx => by subst hx; exact ⟨HXG.out, fun cs fr hh => by have h2 := HX5.out; unfold Blk at h2; rw [h2] at hh; simp at hh⟩))
 have HKy := Lib.hid (HMc.out.keeps HKz.out (fun x hx => by rw [hx, ← HXX.out]; exact Nat.le_refl _))
 clear r0 r1 r2 r3 f0 f1 f2 f3 HX5 HMc HS5 HKz
 have HGS := Lib.hid (goodState_any ⟨(xb : Int), (xd : Int), ce, (xf : Int)⟩)
 have HX0 := Lib.hid HXc.out.drew
 have HSd := Lib.hid (HSy.out.kept ((Keeps.refl y).drew))
 unfold stA at *
 generalize goodStB ⟨(xb : Int), (xd : Int), ce, (xf : Int)⟩ = gs at *
 by_cases hsf : sf = some l.length
 ·have e0 : decide (sf = some l.length) = true := decide_eq_true hsf
  by_cases hxn : xa < n
  ·have HOK := Lib.hid (show ok = gs from by rw [HO.out, e0, decide_eq_true hxn]; simp)
   have e2 : decide ((xa : Int) < (n : Int)) = true := decide_eq_true (by omega)
   have e3 : decide (xa < n) = true := decide_eq_true hxn
   refine wp_region_noPanic ?_
   refine wp_region_held_drew (S := fun w' => HB1 44 X #[.int .i64 (xb : Int), .int .i64 (xd : Int), .int .i64 ce, .int .i64 (xf : Int)] y w') (by kernel_rfl) ((⟨(Mods.refl (· = X) y).drew, HX0.out⟩ : HB1 44 X #[.int .i64 (xb : Int), .int .i64 (xd : Int), .int .i64 ce, .int .i64 (xf : Int)] y y.drew)) (fun _ => ?_)
   have hHeld : HB1 44 X #[.int .i64 (xb : Int), .int .i64 (xd : Int), .int .i64 ce, .int .i64 (xf : Int)] y (y).drew := (⟨(Mods.refl (· = X) y).drew, HX0.out⟩ : HB1 44 X #[.int .i64 (xb : Int), .int .i64 (xd : Int), .int .i64 ce, .int .i64 (xf : Int)] y y.drew)
   generalize World.drew y = xs at *
   refine tq 0 27 ?_
   refine tq 1 28 ?_ (hy := fun w' hSw => by
    have hSw : HB1 44 X #[.int .i64 (xb : Int), .int .i64 (xd : Int), .int .i64 ce, .int .i64 (xf : Int)] y w' := hSw
    have h0 := hSw.2.cell 0
    have h1 := hSw.2.cell 1
    have h2 := hSw.2.cell 2
    have h3 := hSw.2.cell 3
    simp only [List.getElem?_toArray, List.getElem?_cons_zero, List.getElem?_cons_succ] at h0 h1 h2 h3
    clear hSw
    go_simp
    try with_reducible rfl)
   refine tq 2 29 ?_
   refine rd1 3 (fun K hK => ?_)
   go_simp
   refine (srcODone HSd.out).mono ?_
   rintro e zd ⟨er, rfl, her, hk⟩
   have e1 : (er == 0) = true := by simpa using her.1 hsf
   have hb := hHeld.keeps hk
   clear hk her
   go_wp2_with fail
   refine bkm hK hb ?_
   clear hK K hHeld
   have hHeld : HB1 44 X #[.int .i64 (xb : Int), .int .i64 (xd : Int), .int .i64 ce, .int .i64 (xf : Int)] y zd := hb
   clear hb
   refine tq 4 31 ?_
   refine tq 5 32 ?_
   refine tq 6 33 ?_
   refine tq 7 34 ?_
   refine tq 8 35 ?_
   refine tq 9 36 ?_
   refine tq 10 37 ?_
   refine tq 11 38 ?_ (hy := fun w' hSw => by
    have hSw : HB1 44 X #[.int .i64 (xb : Int), .int .i64 (xd : Int), .int .i64 ce, .int .i64 (xf : Int)] y w' := hSw
    have h0 := hSw.2.cell 0
    have h1 := hSw.2.cell 1
    have h2 := hSw.2.cell 2
    have h3 := hSw.2.cell 3
    simp only [List.getElem?_toArray, List.getElem?_cons_zero, List.getElem?_cons_succ] at h0 h1 h2 h3
    clear hSw
    go_simp
    try with_reducible rfl)
   refine rd1 12 (fun K hK => ?_)
   go_simp
   refine (HGS.out _).mono ?_
   rintro e zg ⟨rfl, hk⟩
   have hb := hHeld.keeps hk
   clear hk
   go_wp2_with fail
   refine bkm hK hb ?_
   clear hK K hHeld
   have hHeld : HB1 44 X #[.int .i64 (xb : Int), .int .i64 (xd : Int), .int .i64 ce, .int .i64 (xf : Int)] y zg := hb
   clear hb
   refine tq 13 40 ?_
   refine tq 14 4 ?_
   refine rd1 15 (fun K hK => ?_)
   refine step_st (ds := #[.int .i64 (xb : Int), .int .i64 (xd : Int), .int .i64 ce, .int .i64 (xf : Int)]) rfl stM hHeld.2 rfl (by simp [Value.oneCell']) _ _ rfl rfl rfl rfl ?_
   intro yF hBF hMF
   have hb : HB1 44 X #[.int .i64 (xb : Int), .int .i64 (xd : Int), .int .i64 ce, .int .i64 (xf : Int)] y yF := ⟨hHeld.1.trans hMF (fun x h _ => h), hBF⟩
   clear hBF hMF
   refine bkm hK hb ?_
   clear hK K hHeld
   have hHeld : HB1 44 X #[.int .i64 (xb : Int), .int .i64 (xd : Int), .int .i64 ce, .int .i64 (xf : Int)] y yF := hb
   clear hb
   refine tq 16 6 ?_
   refine wpAnyH_done (by kernel_rfl) ?_ _
   refine NoPanic.normal ?_
   have HF := Lib.hid (show yF.cell? ⟨X, 0, none⟩ = some (.int .i64 (xb : Int)) ∧ yF.cell? ⟨X, 1, none⟩ = some (.int .i64 (xd : Int)) ∧ yF.cell? ⟨X, 2, none⟩ = some (.int .i64 ce) ∧ yF.cell? ⟨X, 3, none⟩ = some (.int .i64 (xf : Int)) from ⟨by rw [hHeld.2.cell]; rfl, by rw [hHeld.2.cell]; rfl, by rw [hHeld.2.cell]; rfl, by rw [hHeld.2.cell]; rfl⟩)
   have HKF := Lib.hid (hHeld.1.keeps HKy.out (fun x hx => by rw [hx, ← HXX.out]; exact Nat.le_refl _))
   clear hHeld
   go_wp2_with fail
   exact bodyPost_ret (v := .tuple #[.int .i64 (xa : Int), .agg #[.int .i64 (xb : Int), .int .i64 (xd : Int), .int .i64 ce, .int .i64 (xf : Int)], .bool gs]) (by simp [results, Try.results19, go_sem, HF.out.1, HF.out.2.1, HF.out.2.2.1, HF.out.2.2.2]) rfl ⟨by rw [HOK.out]; rfl, HKF.out⟩
  ·have HOK := Lib.hid (show ok = false from by rw [HO.out, e0, decide_eq_false hxn]; simp)
   have e2 : decide ((xa : Int) < (n : Int)) = false := decide_eq_false (by omega)
   have e3 : decide (xa < n) = false := decide_eq_false hxn
   refine wp_region_noPanic ?_
   refine wp_region_held_drew (S := fun w' => HB1 44 X #[.int .i64 (xb : Int), .int .i64 (xd : Int), .int .i64 ce, .int .i64 (xf : Int)] y w') (by kernel_rfl) ((⟨(Mods.refl (· = X) y).drew, HX0.out⟩ : HB1 44 X #[.int .i64 (xb : Int), .int .i64 (xd : Int), .int .i64 ce, .int .i64 (xf : Int)] y y.drew)) (fun _ => ?_)
   have hHeld : HB1 44 X #[.int .i64 (xb : Int), .int .i64 (xd : Int), .int .i64 ce, .int .i64 (xf : Int)] y (y).drew := (⟨(Mods.refl (· = X) y).drew, HX0.out⟩ : HB1 44 X #[.int .i64 (xb : Int), .int .i64 (xd : Int), .int .i64 ce, .int .i64 (xf : Int)] y y.drew)
   generalize World.drew y = xs at *
   refine tq 0 27 ?_
   refine tq 1 28 ?_ (hy := fun w' hSw => by
    have hSw : HB1 44 X #[.int .i64 (xb : Int), .int .i64 (xd : Int), .int .i64 ce, .int .i64 (xf : Int)] y w' := hSw
    have h0 := hSw.2.cell 0
    have h1 := hSw.2.cell 1
    have h2 := hSw.2.cell 2
    have h3 := hSw.2.cell 3
    simp only [List.getElem?_toArray, List.getElem?_cons_zero, List.getElem?_cons_succ] at h0 h1 h2 h3
    clear hSw
    go_simp
    try with_reducible rfl)
   refine tq 2 29 ?_
   refine rd1 3 (fun K hK => ?_)
   go_simp
   refine (srcODone HSd.out).mono ?_
   rintro e zd ⟨er, rfl, her, hk⟩
   have e1 : (er == 0) = true := by simpa using her.1 hsf
   have hb := hHeld.keeps hk
   clear hk her
   go_wp2_with fail
   refine bkm hK hb ?_
   clear hK K hHeld
   have hHeld : HB1 44 X #[.int .i64 (xb : Int), .int .i64 (xd : Int), .int .i64 ce, .int .i64 (xf : Int)] y zd := hb
   clear hb
   refine tq 4 31 ?_
   refine tq 5 32 ?_
   refine tq 6 33 ?_
   refine tq 7 34 ?_
   refine tq 8 35 ?_
   refine tq 9 36 ?_
   refine tq 10 37 ?_
   refine wpAnyH_take (i := 11) (by rfl) (by kernel_rfl) (by kernel_rfl) (by kernel_rfl) (by intro _ _ _ h; exact h) (Or.inr ⟨by kernel_rfl, rfl⟩) (by assumption) ?rest25
   change wpAnyH _ _ _ _ _ _ _ (Act.put _ (some 38) _) _
   try simp only [Act.put, List.setIfInBounds_toArray, List.set_cons_zero, List.set_cons_succ]
   refine wpAnyH_take (i := 12) (by rfl) (by kernel_rfl) (by kernel_rfl) (by kernel_rfl) (by intro _ _ _ h; exact h) (Or.inr ⟨by kernel_rfl, rfl⟩) (by assumption) ?rest26
   change wpAnyH _ _ _ _ _ _ _ (Act.put _ (some 39) _) _
   try simp only [Act.put, List.setIfInBounds_toArray, List.set_cons_zero, List.set_cons_succ]
   refine tq 13 40 ?_
   refine tq 14 4 ?_
   refine rd1 15 (fun K hK => ?_)
   refine step_st (ds := #[.int .i64 (xb : Int), .int .i64 (xd : Int), .int .i64 ce, .int .i64 (xf : Int)]) rfl stM hHeld.2 rfl (by simp [Value.oneCell']) _ _ rfl rfl rfl rfl ?_
   intro yF hBF hMF
   have hb : HB1 44 X #[.int .i64 (xb : Int), .int .i64 (xd : Int), .int .i64 ce, .int .i64 (xf : Int)] y yF := ⟨hHeld.1.trans hMF (fun x h _ => h), hBF⟩
   clear hBF hMF
   refine bkm hK hb ?_
   clear hK K hHeld
   have hHeld : HB1 44 X #[.int .i64 (xb : Int), .int .i64 (xd : Int), .int .i64 ce, .int .i64 (xf : Int)] y yF := hb
   clear hb
   refine tq 16 6 ?_
   refine wpAnyH_done (by kernel_rfl) ?_ _
   refine NoPanic.normal ?_
   have HF := Lib.hid (show yF.cell? ⟨X, 0, none⟩ = some (.int .i64 (xb : Int)) ∧ yF.cell? ⟨X, 1, none⟩ = some (.int .i64 (xd : Int)) ∧ yF.cell? ⟨X, 2, none⟩ = some (.int .i64 ce) ∧ yF.cell? ⟨X, 3, none⟩ = some (.int .i64 (xf : Int)) from ⟨by rw [hHeld.2.cell]; rfl, by rw [hHeld.2.cell]; rfl, by rw [hHeld.2.cell]; rfl, by rw [hHeld.2.cell]; rfl⟩)
   have HKF := Lib.hid (hHeld.1.keeps HKy.out (fun x hx => by rw [hx, ← HXX.out]; exact Nat.le_refl _))
   clear hHeld
   go_wp2_with fail
   exact bodyPost_ret (v := .tuple #[.int .i64 (xa : Int), .agg #[.int .i64 (xb : Int), .int .i64 (xd : Int), .int .i64 ce, .int .i64 (xf : Int)], .bool false]) (by simp [results, Try.results19, go_sem, HF.out.1, HF.out.2.1, HF.out.2.2.1, HF.out.2.2.2]) rfl ⟨by rw [HOK.out]; rfl, HKF.out⟩
 ·have HOK := Lib.hid (show ok = false from by rw [HO.out, decide_eq_false hsf]; simp)
  refine wp_region_noPanic ?_
  refine wp_region_held_drew (S := fun w' => HB1 44 X #[.int .i64 (xb : Int), .int .i64 (xd : Int), .int .i64 ce, .int .i64 (xf : Int)] y w') (by kernel_rfl) ((⟨(Mods.refl (· = X) y).drew, HX0.out⟩ : HB1 44 X #[.int .i64 (xb : Int), .int .i64 (xd : Int), .int .i64 ce, .int .i64 (xf : Int)] y y.drew)) (fun _ => ?_)
  have hHeld : HB1 44 X #[.int .i64 (xb : Int), .int .i64 (xd : Int), .int .i64 ce, .int .i64 (xf : Int)] y (y).drew := (⟨(Mods.refl (· = X) y).drew, HX0.out⟩ : HB1 44 X #[.int .i64 (xb : Int), .int .i64 (xd : Int), .int .i64 ce, .int .i64 (xf : Int)] y y.drew)
  generalize World.drew y = xs at *
  refine tq 0 27 ?_
  refine tq 1 28 ?_ (hy := fun w' hSw => by
   have hSw : HB1 44 X #[.int .i64 (xb : Int), .int .i64 (xd : Int), .int .i64 ce, .int .i64 (xf : Int)] y w' := hSw
   have h0 := hSw.2.cell 0
   have h1 := hSw.2.cell 1
   have h2 := hSw.2.cell 2
   have h3 := hSw.2.cell 3
   simp only [List.getElem?_toArray, List.getElem?_cons_zero, List.getElem?_cons_succ] at h0 h1 h2 h3
   clear hSw
   go_simp
   try with_reducible rfl)
  refine tq 2 29 ?_
  refine rd1 3 (fun K hK => ?_)
  go_simp
  refine (srcODone HSd.out).mono ?_
  rintro e zd ⟨er, rfl, her, hk⟩
  have e1 : (er == 0) = false := by simpa using fun h => hsf (her.2 h)
  have hb := hHeld.keeps hk
  clear hk her
  go_wp2_with fail
  refine bkm hK hb ?_
  clear hK K hHeld
  have hHeld : HB1 44 X #[.int .i64 (xb : Int), .int .i64 (xd : Int), .int .i64 ce, .int .i64 (xf : Int)] y zd := hb
  clear hb
  refine tq 4 31 ?_
  refine tq 5 32 ?_
  refine wpAnyH_take (i := 6) (by rfl) (by kernel_rfl) (by kernel_rfl) (by kernel_rfl) (by intro _ _ _ h; exact h) (Or.inr ⟨by kernel_rfl, rfl⟩) (by assumption) ?rest35
  change wpAnyH _ _ _ _ _ _ _ (Act.put _ (some 33) _) _
  try simp only [Act.put, List.setIfInBounds_toArray, List.set_cons_zero, List.set_cons_succ]
  refine wpAnyH_take (i := 7) (by rfl) (by kernel_rfl) (by kernel_rfl) (by kernel_rfl) (by intro _ _ _ h; exact h) (Or.inr ⟨by kernel_rfl, rfl⟩) (by assumption) ?rest36
  change wpAnyH _ _ _ _ _ _ _ (Act.put _ (some 34) _) _
  try simp only [Act.put, List.setIfInBounds_toArray, List.set_cons_zero, List.set_cons_succ]
  refine wpAnyH_take (i := 8) (by rfl) (by kernel_rfl) (by kernel_rfl) (by kernel_rfl) (by intro _ _ _ h; exact h) (Or.inr ⟨by kernel_rfl, rfl⟩) (by assumption) ?rest37
  change wpAnyH _ _ _ _ _ _ _ (Act.put _ (some 35) _) _
  try simp only [Act.put, List.setIfInBounds_toArray, List.set_cons_zero, List.set_cons_succ]
  refine tq 9 36 ?_
  refine tq 10 37 ?_
  refine wpAnyH_take (i := 11) (by rfl) (by kernel_rfl) (by kernel_rfl) (by kernel_rfl) (by intro _ _ _ h; exact h) (Or.inr ⟨by kernel_rfl, rfl⟩) (by assumption) ?rest40
  change wpAnyH _ _ _ _ _ _ _ (Act.put _ (some 38) _) _
  try simp only [Act.put, List.setIfInBounds_toArray, List.set_cons_zero, List.set_cons_succ]
  refine wpAnyH_take (i := 12) (by rfl) (by kernel_rfl) (by kernel_rfl) (by kernel_rfl) (by intro _ _ _ h; exact h) (Or.inr ⟨by kernel_rfl, rfl⟩) (by assumption) ?rest41
  change wpAnyH _ _ _ _ _ _ _ (Act.put _ (some 39) _) _
  try simp only [Act.put, List.setIfInBounds_toArray, List.set_cons_zero, List.set_cons_succ]
  refine tq 13 40 ?_
  refine tq 14 4 ?_
  refine rd1 15 (fun K hK => ?_)
  refine step_st (ds := #[.int .i64 (xb : Int), .int .i64 (xd : Int), .int .i64 ce, .int .i64 (xf : Int)]) rfl stM hHeld.2 rfl (by simp [Value.oneCell']) _ _ rfl rfl rfl rfl ?_
  intro yF hBF hMF
  have hb : HB1 44 X #[.int .i64 (xb : Int), .int .i64 (xd : Int), .int .i64 ce, .int .i64 (xf : Int)] y yF := ⟨hHeld.1.trans hMF (fun x h _ => h), hBF⟩
  clear hBF hMF
  refine bkm hK hb ?_
  clear hK K hHeld
  have hHeld : HB1 44 X #[.int .i64 (xb : Int), .int .i64 (xd : Int), .int .i64 ce, .int .i64 (xf : Int)] y yF := hb
  clear hb
  refine tq 16 6 ?_
  refine wpAnyH_done (by kernel_rfl) ?_ _
  refine NoPanic.normal ?_
  have HF := Lib.hid (show yF.cell? ⟨X, 0, none⟩ = some (.int .i64 (xb : Int)) ∧ yF.cell? ⟨X, 1, none⟩ = some (.int .i64 (xd : Int)) ∧ yF.cell? ⟨X, 2, none⟩ = some (.int .i64 ce) ∧ yF.cell? ⟨X, 3, none⟩ = some (.int .i64 (xf : Int)) from ⟨by rw [hHeld.2.cell]; rfl, by rw [hHeld.2.cell]; rfl, by rw [hHeld.2.cell]; rfl, by rw [hHeld.2.cell]; rfl⟩)
  have HKF := Lib.hid (hHeld.1.keeps HKy.out (fun x hx => by rw [hx, ← HXX.out]; exact Nat.le_refl _))
  clear hHeld
  go_wp2_with fail
  exact bodyPost_ret (v := .tuple #[.int .i64 (xa : Int), .agg #[.int .i64 (xb : Int), .int .i64 (xd : Int), .int .i64 ce, .int .i64 (xf : Int)], .bool false]) (by simp [results, Try.results19, go_sem, HF.out.1, HF.out.2.1, HF.out.2.2.1, HF.out.2.2.2]) rfl ⟨by rw [HOK.out]; rfl, HKF.out⟩
end Env
end Go.Proofs.Ytkbibhlfehamgaa

/- envel.readEnv's variables in memory. -/
namespace Go.Proofs.Ytkbibhlfehamgaa
open Go.RowKit
namespace Env
open Adr (Str)
open Frm (ownsRow_keeps ownsRow_mods ownsRow_ne ownsRow_form ownsRow_ty)
abbrev jobC (id arr : Int) (fl fd : Str) (vt : Value) : Array Value := #[.int .i64 id, .int .i64 arr, .string (bstr fl), .string (bstr fd), vt, .slice none 0 0, .slice none 0 0]
structure EnvSt (w wr : World) (J B g : Nat) (l : Str) (σ : Option Nat) (id arr : Int) (fl fd : Str) (vt : Value) (T : List TgP) : Prop where
 src : SrcO w wr g l σ
 job : Blk wr J 29 (jobC id arr fl fd vt)
 var : Blk wr B 77 #[.pointer (some ⟨g, 0, none⟩)]
 own : wr.ownsRow w.heap.size 47 3 vt T.length (T.flatMap tgC)
 jg : J ≠ g
 jb : J ≠ B
 bg : B ≠ g
 jw : w.heap.size ≤ J
 gs : ∃ cs, Blk wr g 103 cs
section
variable {w wr wr' : World} {J B g : Nat} {l : Str} {σ σ' : Option Nat} {id arr : Int} {fl fd : Str} {vt : Value} {T : List TgP}
theorem EnvSt.kept (h : EnvSt w wr J B g l σ id arr fl fd vt T) (k : Keeps wr wr') : EnvSt w wr' J B g l σ id arr fl fd vt T :=
 ⟨h.src.kept k, h.job.keeps k, h.var.keeps k, ownsRow_keeps h.own k, h.jg, h.jb, h.bg, h.jw, let ⟨cs, hc⟩ := h.gs; ⟨cs, hc.keeps k⟩⟩
theorem SrcO.blk {w wr : World} (h : SrcO w wr g l σ) : ∃ cs, Blk wr g 103 cs := let ⟨_, _, _, h, _⟩ := h; ⟨_, h.blk⟩
/-- behind a call that turns the source alone -/
theorem EnvSt.did (h : EnvSt w wr J B g l σ id arr fl fd vt T) (hs : SrcO w wr' g l σ') (k : Mods (· = g) wr wr') : EnvSt w wr' J B g l σ' id arr fl fd vt T :=
 ⟨hs, h.job.mods k h.jg, h.var.mods k h.bg, ownsRow_mods h.own k (fun x hx e => by
  obtain ⟨cs, hc⟩ := h.gs
  exact ownsRow_ne h.own hc (by decide) (by rw [hx, e])), h.jg, h.jb, h.bg, h.jw, SrcO.blk hs⟩
/-- the job's variable is written -/
theorem EnvSt.write (h : EnvSt w wr J B g l σ id arr fl fd vt T) (k : Mods (· = J) wr wr') {id' arr' : Int} {fl' fd' : Str} (hJ : Blk wr' J 29 (jobC id' arr' fl' fd' vt)) : EnvSt w wr' J B g l σ id' arr' fl' fd' vt T :=
 ⟨h.src.modsB k (fun x hx => by
  subst hx
  exact ⟨h.jw, h.jg, fun cs fr hh => by have h2 := h.job; unfold Blk at h2; rw [h2] at hh; simp at hh⟩), hJ, h.var.mods k h.jb.symm, ownsRow_mods h.own k (fun x hx e => ownsRow_ne h.own h.job (by decide) (by rw [hx, e])), h.jg, h.jb, h.bg, h.jw, let ⟨cs, hc⟩ := h.gs; ⟨cs, hc.mods k h.jg.symm⟩⟩
/-- behind an append of a target, ahead of its store -/
theorem EnvSt.grown (h : EnvSt w wr J B g l σ id arr fl fd vt T) {vt' : Value} {t : TgP} {wa : World} (k : Keeps wr wa) (hg : wa.grownBy wr' vt.ownBlock) (ho : wr'.ownsRow w.heap.size 47 3 vt' (T.length + 1) (T.flatMap tgC ++ tgC t)) :
  EnvSt w (wr'.setCell ⟨J, 4, none⟩ vt') J B g l σ id arr fl fd vt' (T ++ [t]) := by
 have h1 := h.kept k
 have hM : Mods (fun x => vt.ownBlock = some x) wa wr' := (Mods.refl _ wa).grown hg (fun k hk _ => hk)
 have hnJ : vt.ownBlock ≠ some J := ownsRow_ne h1.own h1.job (by decide)
 obtain ⟨cs, hc⟩ := h1.gs
 have hng : vt.ownBlock ≠ some g := ownsRow_ne h1.own hc (by decide)
 have hnB : vt.ownBlock ≠ some B := ownsRow_ne h1.own h1.var (by decide)
 have hnJ' : vt'.ownBlock ≠ some J := ownsRow_ne ho (h1.job.mods hM hnJ) (by decide)
 have hS1 : SrcO w wr' g l σ := h1.src.modsB hM (fun x hx => ⟨Frm.ownsRow_base h1.own x hx, fun e => hng (by rw [hx, e]), fun cs fr => ownsRow_ty h1.own (by decide) x hx cs fr⟩)
 have hM2 : Mods (· = J) wr' (wr'.setCell ⟨J, 4, none⟩ vt') := (Mods.refl (· = J) wr').setCell (p := ⟨J, 4, none⟩) (fun _ => rfl) vt'
 have hJ1 := h1.job.mods hM hnJ
 refine ⟨hS1.modsB hM2 (fun x hx => by
  subst hx
  exact ⟨h.jw, h.jg, fun cs fr hh => by have h2 := hJ1; unfold Blk at h2; rw [h2] at hh; simp at hh⟩), hJ1.set_ 4 vt', (h1.var.mods hM hnB).mods hM2 h.jb.symm, ?_, h.jg, h.jb, h.bg, h.jw, ⟨cs, (hc.mods hM hng).mods hM2 h.jg.symm⟩⟩
 have := ownsRow_mods ho hM2 (fun x hx e => hnJ' (by rw [hx, e]))
 simpa using this
end
theorem tgok : ElemOkS Try.prog 26 47 3 40 := elemOkS (z := .agg #[.int .i64 0, .string ⟨#[]⟩, .string ⟨#[]⟩]) Try.underlying26 (by kernel_rfl) rfl
theorem SrcO.lower {W W1 w : World} {g : Nat} {l : Str} {σ : Option Nat} (h : SrcO W1 w g l σ) (k : Keeps W W1) : SrcO W w g l σ := by
 obtain ⟨v, a, er, h1, h2, h3, h4, h5⟩ := h
 exact ⟨v, a, er, h1, h2, h3, Nat.le_trans k.size h4, k.trans h5⟩
theorem capId_if (v : Nat) : (if (1099511627777 : Int) < (v : Int) then (1099511627777 : Int) else (v : Int)) = capI capId v := by
 unfold capI capId
 split <;> split <;> omega
theorem capId_le (v : Nat) : 0 ≤ capI capId v ∧ capI capId v ≤ 1099511627777 := by
 unfold capI capId
 split <;> omega
end Env
end Go.Proofs.Ytkbibhlfehamgaa

/- envel.readEnv. -/
namespace Go.Proofs.Ytkbibhlfehamgaa
open Go.RowKit
namespace Env
open Adr (Str)
open Frm (ownsRow_keeps ownsRow_mods ownsRow_ne ownsRow_form ownsRow_ty rowS_lit)
def EnvRet (W : World) (l : Str) (e : Ending) (w' : World) : Prop :=
 ∃ (j : JobP) (p : Option Addr) (n c : Nat) (ok : Bool), e = .returned (.tuple #[.agg (jobC j.id j.arr j.fl j.fd (.slice p n c)), .bool ok]) ∧ ok = envOk (envR 100 capId capT l) l ∧
  (ok = true → j = (envR 100 capId capT l).1 ∧ w'.ownsRow W.heap.size 47 3 (.slice p n c) j.tos.length (j.tos.flatMap tgC)) ∧ Keeps W w'
theorem rowS_own {w : World} {base C n : Nat} {e : TypeId} {v : Value} {xs : List Value} (h : w.ownsRow base e C v n xs) : RowS w C v n xs := by
 refine ⟨h.1, ?_⟩
 rcases h.2 with ⟨rfl, rfl⟩ | ⟨q, cap, cur, rfl, _, hgg, h1, h2, h3, h4⟩
 ·exact .inl ⟨none, 0, rfl, rfl, Nat.zero_le _, fun _ => rfl⟩
 ·refine .inr ⟨q, 0, cap, rfl, h1, h2, fun i x hx => ?_⟩
  have hc := World.ownsRow.cells (h := h) (g := q) rfl i x hx
  rw [Go.WideShapes.add_plain] at hc
  exact hc
theorem rs_nil (w : World) (C : Nat) : RowS w C (.slice none 0 0) 0 [] := ⟨by simp, .inl ⟨none, 0, rfl, rfl, Nat.zero_le _, fun _ => rfl⟩⟩
set_option maxRecDepth 100000 in
set_option maxHeartbeats 4000000 in
theorem readEnv_any (w : World) (v : Value) (l : Str) (hr : Row w v (l.map u8v)) (hl : l.length ≤ 35184372088832) : Calls Try.prog 18 #[v] w (EnvRet w l) := by
 have HR := Lib.hid (hr.keeps ((Keeps.refl w).alloc (.cells (jobC 0 0 [] [] (.slice none 0 0)) 29)))
 have HX := Lib.hid (Blk.new w 29 (jobC 0 0 [] [] (.slice none 0 0)) rfl)
 have HK := Lib.hid ((Keeps.refl w).alloc (.cells (jobC 0 0 [] [] (.slice none 0 0)) 29))
 obtain ⟨pv, nv, cv, rfl⟩ : ∃ p n c, v = .slice p n c := let ⟨p, c, h, _⟩ := hr.form; ⟨p, _, c, h⟩
 clear hr
 have hid := uR_lt l 8 (by omega) (some 0)
 generalize hxi : (uR l 8 (some 0)).1 = xi at *
 generalize hsi : (uR l 8 (some 0)).2 = si at *
 have har := uR_lt l 8 (by omega) si
 generalize hxa : (uR l 8 si).1 = xa at *
 generalize hsa : (uR l 8 si).2 = sa at *
 generalize hxf : (tR l 100 sa).1 = xf at *
 generalize hsf : (tR l 100 sa).2 = sf at *
 generalize hxd : (tR l 100 sf).1 = xd at *
 generalize hsd : (tR l 100 sf).2 = sd at *
 have hcn := uR_lt l 1 (by omega) sd
 generalize hxn : (uR l 1 sd).1 = xn at *
 generalize hsn : (uR l 1 sd).2 = sn at *
 simp only [Nat.reducePow] at hid har hcn
 have HE1 := Lib.hid (And.intro hxi hsi)
 have HE2 := Lib.hid (And.intro hxa hsa)
 have HE3 := Lib.hid (And.intro hxn hsn)
 obtain ⟨ci, hci⟩ : ∃ c, capI capId xi = c := ⟨_, rfl⟩
 obtain ⟨ca, hca⟩ : ∃ c, capI capT xa = c := ⟨_, rfl⟩
 have hi1 := capId_le xi
 have hi2 := capId_if xi
 have ha1 := capI_le xa
 have ha2 := capI_if xa
 rw [hci] at hi1 hi2
 rw [hca] at ha1 ha2
 have HEN := Lib.hid (show envR 100 capId capT l = (⟨ci, ca, xf, xd, (tgsR l 100 xn sn).1, [], []⟩, (tgsR l 100 xn sn).2) from by
  unfold envR headR
  simp only [hxi, hsi, hxa, hsa, hxf, hsf, hxd, hsd, hxn, hsn, hci, hca])
 clear hxi hsi hxa hsa hxn hsn hci hca
 have wi : IntKind.i64.wrap ci = ci := IntWalk.i64_in _ (by omega)
 have wa : IntKind.i64.wrap ca = ca := IntWalk.i64_in _ (by omega)
 have HOK := Lib.hid (show envOk (envR 100 capId capT l) l = (decide ((tgsR l 100 xn sn).2 = some l.length) && envB ⟨ci, ca, xf, xd, (tgsR l 100 xn sn).1, [], []⟩) from by rw [HEN.out]; rfl)
 have HBX : Hid (∀ {W w : World} {g : Nat} (_ : SrcO W w g l sa) (B : Nat) (_ : Blk w B 77 #[.pointer (some ⟨g, 0, none⟩)]) (_ : B ≠ g),
   Calls Try.prog 39 #[.pointer (some ⟨B, 0, none⟩)] w fun e w' => e = .returned (.agg #[.string (bstr xf), .string (bstr xd)]) ∧ SrcO W w' g l sd ∧ Mods (· = g) w w') := Lib.hid (fun h B h1 h2 => by
  have := box_any h B h1 h2
  rw [hsf, hxf, hxd, hsd] at this
  exact this)
 have HFL := Lib.hid (show xf.length ≤ 100 ∧ xd.length ≤ 100 from ⟨by rw [← hxf]; exact tR_len _ _ _, by rw [← hxd]; exact tR_len _ _ _⟩)
 clear hxf hsf hxd hsd
 have HBOX : ∀ (x : Value) (w : World), (callFunc 39 #[x]).run Try.prog w = .ok (.enter 39 #[x]) w := fun x w => enters_of Try.func39 (by kernel_rfl) rfl _ _
 go_enter Try.func18, Try.ntmps18
 go_wp2_with fail
 refine (srcONew _ l HR.out hl).mono ?_
 rintro e z0 ⟨g, rfl, hso⟩
 have HS0 := Lib.hid (hso.lower HK.out)
 have HX0 := Lib.hid (HX.out.keeps hso.keepsW)
 have HJG := Lib.hid (show w.heap.size ≠ g from fun e => by
  have h1 := hso.ge
  have h2 := HX.out.lt
  omega)
 generalize w.alloc (.cells (jobC 0 0 [] [] (.slice none 0 0)) 29) = w1 at *
 generalize hJ : w.heap.size = J at *
 have HJJ := Lib.hid hJ
 clear hso hJ HX HR HK
 go_upto_region 3 with fail
 have hzJ : J < z0.heap.size := HX0.out.lt
 have hzg : g < z0.heap.size := HS0.out.lt
 obtain ⟨y0, hy0⟩ : ∃ y, z0.alloc (.cells #[.pointer (some ⟨g, 0, none⟩)] 77) = y := ⟨_, rfl⟩
 have HV := Lib.hid (show Blk y0 z0.heap.size 77 #[.pointer (some ⟨g, 0, none⟩)] from by rw [← hy0]; exact Blk.new _ _ _ rfl)
 have HKz := Lib.hid (show Keeps z0 y0 from by rw [← hy0]; exact (Keeps.refl _).alloc _)
 rw [hy0]
 have HT0 := Lib.hid (show EnvSt w y0 J z0.heap.size g l (some 0) 0 0 [] [] (.slice none 0 0) [] from ⟨HS0.out.kept HKz.out, HX0.out.keeps HKz.out, HV.out, World.ownsRow_nil _ _ _ _, HJG.out, by omega, by omega, by rw [← HJJ.out]; exact Nat.le_refl _, SrcO.blk (HS0.out.kept HKz.out)⟩)
 clear hy0 HX0 HS0 HKz HV hzJ hzg
 generalize z0.heap.size = B at *
 have vB : y0.cell? ⟨B, 0, none⟩ = some (.pointer (some ⟨g, 0, none⟩)) := by rw [HT0.out.var.cell]; rfl
 have hbg := HT0.out.bg
 have HTd := Lib.hid (HT0.out.kept ((Keeps.refl y0).drew))
 clear HT0
 refine wp_region_noPanic ?_
 refine wp_region_held_drew (S := fun w' => Mods (· = g) y0 w') (by kernel_rfl) ((Mods.refl (· = g) y0).drew) (fun _ => ?_)
 have hHeld : Mods (· = g) y0 (y0).drew := (Mods.refl (· = g) y0).drew
 generalize World.drew y0 = xs at *
 refine tq 0 12 ?_ (hy := fun w' hSw => by
  have hSw : Mods (· = g) y0 w' := hSw
  have hx := hSw.cell vB hbg
  clear hSw
  go_simp
  try with_reducible rfl)
 refine tq 2 14 ?_ (hy := fun w' hSw => by
  have hSw : Mods (· = g) y0 w' := hSw
  have hx := hSw.cell vB hbg
  clear hSw
  go_simp
  try with_reducible rfl)
 refine rd1 1 (fun K hK => ?_)
 go_simp
 refine (srcOU HTd.out.src 8 8 rfl (by omega)).mono ?_
 rintro e z1 ⟨rfl, hso, hm⟩
 rw [HE1.out.2] at hso
 rw [HE1.out.1]
 have HT1 := Lib.hid (HTd.out.did hso hm)
 have hb := hHeld.trans hm (fun x h _ => h)
 clear hso hm HTd
 go_wp2_with fail
 refine bkm hK hb ?_
 clear hK K hHeld
 have hHeld : Mods (· = g) y0 z1 := hb
 clear hb
 refine rd1 3 (fun K hK => ?_)
 go_simp
 refine (srcOU HT1.out.src 8 8 rfl (by omega)).mono ?_
 rintro e z2 ⟨rfl, hso, hm⟩
 rw [HE2.out.2] at hso
 rw [HE2.out.1]
 have HT2 := Lib.hid (HT1.out.did hso hm)
 have hb := hHeld.trans hm (fun x h _ => h)
 clear hso hm HT1
 go_wp2_with fail
 refine bkm hK hb ?_
 clear hK K hHeld
 have hHeld : Mods (· = g) y0 z2 := hb
 clear hb
 refine tq 4 6 ?_
 refine tq 5 7 ?_
 refine wpAnyH_done (by kernel_rfl) ?_ _
 refine NoPanic.normal ?_
 clear hHeld vB
 have j0 : z2.cell? ⟨J, 0, none⟩ = some (.int .i64 0) := by rw [HT2.out.job.cell]; rfl
 have j1 : z2.cell? ⟨J, 1, none⟩ = some (.int .i64 0) := by rw [HT2.out.job.cell]; rfl
 have f0 : z2.frozen? ⟨J, 0, none⟩ = false := HT2.out.job.frozen _
 have f1 : z2.frozen? ⟨J, 1, none⟩ = false := HT2.out.job.frozen _
 have HT3 := Lib.hid (show EnvSt w ((z2.setCell ⟨J, 0, none⟩ (.int .i64 ci)).setCell ⟨J, 1, none⟩ (.int .i64 ca)) J B g l sa ci ca [] [] (.slice none 0 0) [] from HT2.out.write (((Mods.refl (· = J) z2).setCell (p := ⟨J, 0, none⟩) (fun _ => rfl) _).setCell (p := ⟨J, 1, none⟩) (fun _ => rfl) _) ((HT2.out.job.set_ 0 _).set_ 1 _))
 go_upto_region 5 with fail
 generalize ((z2.setCell ⟨J, 0, none⟩ (.int .i64 ci)).setCell ⟨J, 1, none⟩ (.int .i64 ca)) = y3 at *
 clear j0 j1 f0 f1 HT2
 go_wp2_with fail
 refine (HBX.out HT3.out.src B HT3.out.var HT3.out.bg).mono ?_
 rintro e z4 ⟨rfl, hso, hm⟩
 have HT4 := Lib.hid (HT3.out.did hso hm)
 clear hso hm HT3
 have j2 : z4.cell? ⟨J, 2, none⟩ = some (.string (bstr [])) := by rw [HT4.out.job.cell]; rfl
 have j3 : z4.cell? ⟨J, 3, none⟩ = some (.string (bstr [])) := by rw [HT4.out.job.cell]; rfl
 have f2 : z4.frozen? ⟨J, 2, none⟩ = false := HT4.out.job.frozen _
 have f3 : z4.frozen? ⟨J, 3, none⟩ = false := HT4.out.job.frozen _
 have HT5 := Lib.hid (show EnvSt w ((z4.setCell ⟨J, 2, none⟩ (.string (bstr xf))).setCell ⟨J, 3, none⟩ (.string (bstr xd))) J B g l sd ci ca xf xd (.slice none 0 0) [] from HT4.out.write (((Mods.refl (· = J) z4).setCell (p := ⟨J, 2, none⟩) (fun _ => rfl) _).setCell (p := ⟨J, 3, none⟩) (fun _ => rfl) _) ((HT4.out.job.set_ 2 _).set_ 3 _))
 go_upto_region 6 with fail
 generalize ((z4.setCell ⟨J, 2, none⟩ (.string (bstr xf))).setCell ⟨J, 3, none⟩ (.string (bstr xd))) = y5 at *
 clear j2 j3 f2 f3 HT4
 have vB : y5.cell? ⟨B, 0, none⟩ = some (.pointer (some ⟨g, 0, none⟩)) := by rw [HT5.out.var.cell]; rfl
 go_wp2_with fail
 refine (srcOU HT5.out.src 1 1 rfl (by omega)).mono ?_
 rintro e z6 ⟨rfl, hso, hm⟩
 rw [HE3.out.2] at hso
 rw [HE3.out.1]
 have HT6 := Lib.hid (HT5.out.did hso hm)
 clear hso hm HT5 vB
 go_wp2_with fail
 go_loopw [29] (fun iv wr => ∃ (i : Nat) (vt : Value), iv = .int .u64 (i : Int) ∧ i ≤ xn ∧ Hid (EnvSt w wr J B g l (tgsR l 100 i sn).2 ci ca xf xd vt (tgsR l 100 i sn).1)) (fun iv _ => xn - (intOf iv).toNat)
 case atStart => exact ⟨0, _, rfl, Nat.zero_le _, HT6⟩
 case round =>
  obtain ⟨i, vt, rfl, hi, HT⟩ := hrel
  obtain ⟨po, co, rfl, hpo⟩ := ownsRow_form HT.out.own
  have HTL := Lib.hid (tgsR_len l 100 i sn)
  by_cases hlt : i < xn
  ·have hw : IntKind.u64.wrap ((i : Int) + 1) = (i : Int) + 1 := by rw [IntKind.wrap_u64]; omega
   have HNX := Lib.hid (tgsR_snoc l 100 i sn)
   have HST := Lib.hid (fun h : (tgsR l 100 (i + 1) sn).2 = none => tgsR_stop h (show i + 1 ≤ xn by omega))
   generalize hT : (tgsR l 100 i sn).1 = T at *
   generalize hσ : (tgsR l 100 i sn).2 = σ at *
   clear hT hσ
   have hbu := uR_lt l 2 (by omega) σ
   have HTG := Lib.hid (show tgR l 100 σ = (⟨(uR l 2 σ).1, (tR l 100 (uR l 2 σ).2).1, (tR l 100 (tR l 100 (uR l 2 σ).2).2).1⟩, (tR l 100 (tR l 100 (uR l 2 σ).2).2).2) from rfl)
   generalize hxu : (uR l 2 σ).1 = xu at *
   generalize hsu : (uR l 2 σ).2 = su at *
   have HEU := Lib.hid (And.intro hxu hsu)
   clear hxu hsu
   simp only [Nat.reducePow] at hbu
   have wu : IntKind.i64.wrap (xu : Int) = (xu : Int) := IntWalk.i64_in _ (by omega)
   have htl : T.length ≤ 255 := by have := HTL.out; omega
   have vB : wr.cell? ⟨B, 0, none⟩ = some (.pointer (some ⟨g, 0, none⟩)) := by rw [HT.out.var.cell]; rfl
   go_wp2_with fail
   refine (srcOU HT.out.src 2 2 rfl (by omega)).mono ?_
   rintro e y1 ⟨rfl, hso, hm⟩
   rw [HEU.out.2] at hso
   rw [HEU.out.1]
   have HT1 := Lib.hid (HT.out.did hso hm)
   clear hso hm HT vB HEU
   go_upto_region 9 with fail
   generalize hW : World.alloc y1 _ = y2
   have HKy := Lib.hid (show Keeps y1 y2 from by rw [← hW]; exact (Keeps.refl _).alloc _)
   have HFy := Lib.hid (show Blk y2 y1.heap.size 47 #[.int .i64 (xu : Int), .string (bstr []), .string (bstr [])] from by rw [← hW]; exact Blk.new _ _ _ rfl)
   clear hW
   have HT2 := Lib.hid (HT1.out.kept HKy.out)
   obtain ⟨q, hq⟩ : ∃ q, q = y1.heap.size := ⟨_, rfl⟩
   have HQG := Lib.hid (show q ≠ g from fun e => by have := HT1.out.src.lt; omega)
   rw [← hq] at HFy ⊢
   have HQW := Lib.hid (show w.heap.size ≤ q from by have := HT1.out.src.keepsW.size; omega)
   have HQJ := Lib.hid (show q ≠ J from fun e => by have := HT1.out.job.lt; omega)
   have HQB := Lib.hid (show q ≠ B from fun e => by have := HT1.out.var.lt; omega)
   have HQO := Lib.hid (show ∀ x, (Value.slice po T.length co).ownBlock = some x → x ≠ q from fun x hx e => by
    have := Frm.ownsRow_lt HT1.out.own x hx
    omega)
   clear hq HT1 HKy
   generalize hx1 : (tR l 100 su).1 = x1 at *
   generalize hs1 : (tR l 100 su).2 = s1 at *
   generalize hx2 : (tR l 100 s1).1 = x2 at *
   generalize hs2 : (tR l 100 s1).2 = s2 at *
   have HBY := Lib.hid (box_any HT2.out.src B HT2.out.var HT2.out.bg)
   rw [hs1, hx1, hx2, hs2] at HBY
   clear hx1 hs1 hx2 hs2
   go_wp2_with fail
   refine HBY.out.mono ?_
   rintro e y3 ⟨rfl, hso, hm⟩
   have HT3 := Lib.hid (HT2.out.did hso hm)
   have HF3 := Lib.hid (HFy.out.mods hm HQG.out)
   clear hso hm HT2 HFy HBY
   have q1 : y3.cell? ⟨q, 1, none⟩ = some (.string (bstr [])) := by rw [HF3.out.cell]; rfl
   have q2 : y3.cell? ⟨q, 2, none⟩ = some (.string (bstr [])) := by rw [HF3.out.cell]; rfl
   have f1 : y3.frozen? ⟨q, 1, none⟩ = false := HF3.out.frozen _
   have f2 : y3.frozen? ⟨q, 2, none⟩ = false := HF3.out.frozen _
   have HMq := Lib.hid (show Mods (· = q) y3 ((y3.setCell ⟨q, 1, none⟩ (.string (bstr x1))).setCell ⟨q, 2, none⟩ (.string (bstr x2))) from ((Mods.refl (· = q) y3).setCell (p := ⟨q, 1, none⟩) (fun _ => rfl) _).setCell (p := ⟨q, 2, none⟩) (fun _ => rfl) _)
   have HF4 := Lib.hid (show Blk ((y3.setCell ⟨q, 1, none⟩ (.string (bstr x1))).setCell ⟨q, 2, none⟩ (.string (bstr x2))) q 47 #[.int .i64 (xu : Int), .string (bstr x1), .string (bstr x2)] from (HF3.out.set_ 1 _).set_ 2 _)
   have HT4 := Lib.hid (show EnvSt w ((y3.setCell ⟨q, 1, none⟩ (.string (bstr x1))).setCell ⟨q, 2, none⟩ (.string (bstr x2))) J B g l s2 ci ca xf xd (.slice po T.length co) T from
    ⟨HT3.out.src.modsB HMq.out (fun x hx => by
     subst hx
     exact ⟨HQW.out, HQG.out, fun cs fr hh => by have h2 := HF3.out; unfold Blk at h2; rw [h2] at hh; simp at hh⟩), HT3.out.job.mods HMq.out HQJ.out.symm, HT3.out.var.mods HMq.out HQB.out.symm, ownsRow_mods HT3.out.own HMq.out (fun x hx e => HQO.out x hx e), HT3.out.jg, HT3.out.jb, HT3.out.bg, HT3.out.jw, let ⟨cs, hc⟩ := HT3.out.gs; ⟨cs, hc.mods HMq.out HQG.out.symm⟩⟩)
   go_upto_region 10 with fail
   generalize ((y3.setCell ⟨q, 1, none⟩ (.string (bstr x1))).setCell ⟨q, 2, none⟩ (.string (bstr x2))) = y4 at *
   clear q1 q2 f1 f2 HMq HF3 HT3 HQO
   have j4 : y4.cell? ⟨J, 4, none⟩ = some (.slice po T.length co) := by rw [HT4.out.job.cell]; rfl
   have q0 : y4.cell? ⟨q, 0, none⟩ = some (.int .i64 (xu : Int)) := by rw [HF4.out.cell]; rfl
   have q1 : y4.cell? ⟨q, 1, none⟩ = some (.string (bstr x1)) := by rw [HF4.out.cell]; rfl
   have q2 : y4.cell? ⟨q, 2, none⟩ = some (.string (bstr x2)) := by rw [HF4.out.cell]; rfl
   have hwz : w.heap.size ≤ (y4.alloc (.cells #[.int .i64 (xu : Int), .string (bstr x1), .string (bstr x2)] 47)).heap.size := (HT4.out.src.keepsW.alloc _).size
   go_upto_region 11 with (at_builtin; refine wpList_apps (base := w.heap.size) tgok (by decide) rfl _ _ rfl (.slice po T.length co) (.slice (some ⟨y4.heap.size, 0, none⟩) 1 1) T.length 1 (T.flatMap tgC) (tgC ⟨(xu : Int), x1, x2⟩) rfl rfl (ownsRow_keeps HT4.out.own ((Keeps.refl _).alloc _)) (rowS_lit rfl rfl rfl) (by simp [tgC, Value.oneCell']) (by omega) (by decide) hwz ?_; intro v7 w7 ho7 hg7 hf7; obtain ⟨p7, c7, rfl, -, -⟩ := ownsRow_form ho7; have HT7 := Lib.hid (HT4.out.grown (t := ⟨(xu : Int), x1, x2⟩) ((Keeps.refl _).alloc _) hg7 ho7); have j7 : w7.cell? ⟨J, 4, none⟩ = some (.slice po T.length co) := ((Mods.refl (fun x => (Value.slice po T.length co).ownBlock = some x) _).grown hg7 (fun k hk _ => hk)).cell (by rw [((HT4.out.kept ((Keeps.refl _).alloc (.cells #[.int .i64 (xu : Int), .string (bstr x1), .string (bstr x2)] 47))).job).cell]; rfl) (ownsRow_ne HT4.out.own HT4.out.job (by decide)); have f7 : w7.frozen? ⟨J, 4, none⟩ = false := (((HT4.out.kept ((Keeps.refl _).alloc (.cells #[.int .i64 (xu : Int), .string (bstr x1), .string (bstr x2)] 47))).job).mods ((Mods.refl (fun x => (Value.slice po T.length co).ownBlock = some x) _).grown hg7 (fun k hk _ => hk)) (ownsRow_ne HT4.out.own HT4.out.job (by decide))).frozen _; clear ho7 hg7 hf7)
   generalize w7.setCell ⟨J, 4, none⟩ (.slice p7 (T.length + 1) c7) = y8 at *
   clear j4 j7 f7 q0 q1 q2 HT4 HF4
   have vB : y8.cell? ⟨B, 0, none⟩ = some (.pointer (some ⟨g, 0, none⟩)) := by rw [HT7.out.var.cell]; rfl
   go_wp2_with fail
   refine (srcOErr HT7.out.src).mono ?_
   rintro e y9 ⟨er, rfl, her, rfl⟩
   by_cases hs : s2 = none
   ·have e1 : (er != 0) = true := by simpa using her.1 hs
    have HF := Lib.hid (show envOk (envR 100 capId capT l) l = false from by
     have := HST.out (by rw [HNX.out, HTG.out]; exact hs)
     rw [HOK.out, this]
     rfl)
    clear her hs
    go_wp2_with (first | refine wpList_ld rfl jobM HT7.out.job _ rfl rfl ?_ | (refine wpList_st rfl jobM HT7.out.job rfl (by simp [Value.oneCell']) _ _ rfl rfl rfl rfl ?_; intro yF hBF hMF; have FF := Lib.hid (show yF.cell? ⟨J, 0, none⟩ = some (.int .i64 ci) ∧ yF.cell? ⟨J, 1, none⟩ = some (.int .i64 ca) ∧ yF.cell? ⟨J, 2, none⟩ = some (.string (bstr xf)) ∧ yF.cell? ⟨J, 3, none⟩ = some (.string (bstr xd)) ∧ yF.cell? ⟨J, 4, none⟩ = some (.slice p7 (T.length + 1) c7) ∧ yF.cell? ⟨J, 5, none⟩ = some (.slice none 0 0) ∧ yF.cell? ⟨J, 6, none⟩ = some (.slice none 0 0) from ⟨by rw [hBF.cell]; rfl, by rw [hBF.cell]; rfl, by rw [hBF.cell]; rfl, by rw [hBF.cell]; rfl, by rw [hBF.cell]; rfl, by rw [hBF.cell]; rfl, by rw [hBF.cell]; rfl⟩); have HKF := Lib.hid (hMF.keeps HT7.out.src.keepsW (fun x hx => by rw [hx]; exact HT7.out.jw)); clear hBF hMF))
    exact bodyPost_ret (v := .tuple #[.agg (jobC ci ca xf xd (.slice p7 (T.length + 1) c7)), .bool false]) (by simp [results, Try.results18, go_sem, jobC, FF.out.1, FF.out.2.1, FF.out.2.2.1, FF.out.2.2.2.1, FF.out.2.2.2.2.1, FF.out.2.2.2.2.2.1, FF.out.2.2.2.2.2.2]) rfl ⟨⟨ci, ca, xf, xd, [], [], []⟩, p7, T.length + 1, c7, false, rfl, HF.out.symm, by simp, HKF.out⟩
   ·have e1 : (er != 0) = false := by
     by_cases h : er = 0
     ·simp [h]
     ·exact absurd (her.2 h) hs
    have HN := Lib.hid (show EnvSt w y8 J B g l (tgsR l 100 (i + 1) sn).2 ci ca xf xd (.slice p7 (T.length + 1) c7) (tgsR l 100 (i + 1) sn).1 from by
     rw [HNX.out, HTG.out]
     exact HT7.out)
    clear her hs HT7 HNX HTG vB
    go_wp2_with fail
    go_roundw
    case rel => exact ⟨i + 1, _, by simp, by omega, HN⟩
    case measure =>
     simp only [intOf]
     omega
  ·have hie : i = xn := by omega
   subst hie
   have HSM := Lib.hid (tgsR_sm l 100 i sn)
   have hlt' : ¬ (i : Int) < (i : Int) := by omega
   generalize (tgsR l 100 i sn).1 = T at *
   generalize (tgsR l 100 i sn).2 = σ at *
   have hlen : T.length = i := HTL.out
   have HSH := Lib.hid (show Short ⟨ci, ca, xf, xd, T, [], []⟩ from ⟨by have := HFL.out.1; show xf.length ≤ _; omega, by have := HFL.out.2; show xd.length ≤ _; omega, fun t ht => ⟨by have := (HSM.out t ht).2.1; omega, by have := (HSM.out t ht).2.2; omega, tgSm_wf (HSM.out t ht)⟩, by show T.length ≤ _; omega, by simp, by simp⟩)
   have HRT := Lib.hid HT.out.own
   have vB : wr.cell? ⟨B, 0, none⟩ = some (.pointer (some ⟨g, 0, none⟩)) := by rw [HT.out.var.cell]; rfl
   have hbj := HT.out.jb.symm
   have HX0 := Lib.hid HT.out.job.drew
   have HSd := Lib.hid (HT.out.src.core.kept ((Keeps.refl wr).drew))
   have HRd := Lib.hid (ownsRow_keeps HRT.out ((Keeps.refl wr).drew))
   have HKW := Lib.hid HT.out.src.keepsW
   have HJW := Lib.hid HT.out.jw
   have HRJ := Lib.hid (show ∀ x, (Value.slice po T.length co).ownBlock = some x → ¬ x = J from fun x hx e => ownsRow_ne HT.out.own HT.out.job (by decide) (by rw [hx, e]))
   clear hlt HTL HSM HRT HT hlen
   go_wp2_with fail
   by_cases hsl : σ = some l.length
   ·have HOK2 := Lib.hid (show envOk (envR 100 capId capT l) l = envB ⟨ci, ca, xf, xd, T, [], []⟩ from by rw [HOK.out, decide_eq_true hsl]; rfl)
    have HGV : Hid (∀ wz, RowS wz 3 (.slice po T.length co) T.length (T.flatMap tgC) → Calls Try.prog 30 #[.agg (jobC ci ca xf xd (.slice po T.length co))] wz fun e w' => e = .returned (.bool (envB ⟨ci, ca, xf, xd, T, [], []⟩)) ∧ Keeps wz w') := Lib.hid (fun wz h => goodEnv_any wz ⟨ci, ca, xf, xd, T, [], []⟩ (.slice po T.length co) (.slice none 0 0) (.slice none 0 0) ⟨h, rs_nil _ _, row_nil _⟩ HSH.out)
    generalize envB ⟨ci, ca, xf, xd, T, [], []⟩ = eb at *
    refine wp_region_noPanic ?_
    refine wp_region_held_drew (S := fun w' => HB1 29 J (jobC ci ca xf xd (.slice po T.length co)) wr w') (by kernel_rfl) ((⟨(Mods.refl (· = J) wr).drew, HX0.out⟩ : HB1 29 J (jobC ci ca xf xd (.slice po T.length co)) wr wr.drew)) (fun _ => ?_)
    have hHeld : HB1 29 J (jobC ci ca xf xd (.slice po T.length co)) wr (wr).drew := (⟨(Mods.refl (· = J) wr).drew, HX0.out⟩ : HB1 29 J (jobC ci ca xf xd (.slice po T.length co)) wr wr.drew)
    generalize World.drew wr = xs at *
    refine wpAnyH_take (i := 0) (by rfl) (by kernel_rfl) (by kernel_rfl) (by kernel_rfl) (by intro _ _ _ h; exact h) (yieldsIf_ld (by kernel_rfl) jobM (fun w' hS => hS.2) _ rfl rfl) (by assumption) ?rest5
    change wpAnyH _ _ _ _ _ _ _ (Act.put _ (some 49) _) _
    try simp only [Act.put, List.setIfInBounds_toArray, List.set_cons_zero, List.set_cons_succ]
    refine tq 1 50 ?_ (hy := fun w' hSw => by
     have hSw : HB1 29 J (jobC ci ca xf xd (.slice po T.length co)) wr w' := hSw
     have hx := hSw.1.cell vB hbj
     clear hSw
     go_simp
     try with_reducible rfl)
    refine rd1 2 (fun K hK => ?_)
    go_simp
    refine (srcODone HSd.out).mono ?_
    rintro e zd ⟨er, rfl, her, hk⟩
    have e1 : (er == 0) = true := by simpa using her.1 hsl
    have HRz := Lib.hid (ownsRow_keeps HRd.out hk)
    have hb := hHeld.keeps hk
    clear hk her
    go_wp2_with fail
    refine bkm hK hb ?_
    clear hK K hHeld
    have hHeld : HB1 29 J (jobC ci ca xf xd (.slice po T.length co)) wr zd := hb
    clear hb
    refine tq 3 52 ?_
    refine tq 4 53 ?_
    refine wpAnyH_take (i := 5) (by rfl) (by kernel_rfl) (by kernel_rfl) (by kernel_rfl) (by intro _ _ _ h; exact h) (yieldsIf_ld (by kernel_rfl) jobM (fun w' hS => hS.2) _ rfl rfl) (by assumption) ?rest9
    change wpAnyH _ _ _ _ _ _ _ (Act.put _ (some 54) _) _
    try simp only [Act.put, List.setIfInBounds_toArray, List.set_cons_zero, List.set_cons_succ]
    refine rd1 6 (fun K hK => ?_)
    go_simp
    refine (HGV.out _ (rowS_own HRz.out)).mono ?_
    rintro e zg ⟨rfl, hk⟩
    have HRg := Lib.hid (ownsRow_keeps HRz.out hk)
    have hb := hHeld.keeps hk
    clear hk
    go_wp2_with fail
    refine bkm hK hb ?_
    clear hK K hHeld
    have hHeld : HB1 29 J (jobC ci ca xf xd (.slice po T.length co)) wr zg := hb
    clear hb
    refine tq 7 56 ?_
    refine rd1 8 (fun K hK => ?_)
    refine step_st (ds := jobC ci ca xf xd (.slice po T.length co)) rfl jobM hHeld.2 rfl (by simp [Value.oneCell']) _ _ rfl rfl rfl rfl ?_
    intro yF hBF hMF
    have HRF := Lib.hid (show yF.ownsRow w.heap.size 47 3 (.slice po T.length co) T.length (T.flatMap tgC) from ownsRow_mods HRg.out hMF HRJ.out)
    have hb : HB1 29 J (jobC ci ca xf xd (.slice po T.length co)) wr yF := ⟨hHeld.1.trans hMF (fun x h _ => h), hBF⟩
    clear hBF hMF
    refine bkm hK hb ?_
    clear hK K hHeld
    have hHeld : HB1 29 J (jobC ci ca xf xd (.slice po T.length co)) wr yF := hb
    clear hb
    refine tq 9 3 ?_
    refine wpAnyH_done (by kernel_rfl) ?_ _
    refine NoPanic.normal ?_
    have FF := Lib.hid (show yF.cell? ⟨J, 0, none⟩ = some (.int .i64 ci) ∧ yF.cell? ⟨J, 1, none⟩ = some (.int .i64 ca) ∧ yF.cell? ⟨J, 2, none⟩ = some (.string (bstr xf)) ∧ yF.cell? ⟨J, 3, none⟩ = some (.string (bstr xd)) ∧ yF.cell? ⟨J, 4, none⟩ = some (.slice po T.length co) ∧ yF.cell? ⟨J, 5, none⟩ = some (.slice none 0 0) ∧ yF.cell? ⟨J, 6, none⟩ = some (.slice none 0 0) from ⟨by rw [hHeld.2.cell]; rfl, by rw [hHeld.2.cell]; rfl, by rw [hHeld.2.cell]; rfl, by rw [hHeld.2.cell]; rfl, by rw [hHeld.2.cell]; rfl, by rw [hHeld.2.cell]; rfl, by rw [hHeld.2.cell]; rfl⟩)
    have HKF := Lib.hid (hHeld.1.keeps HKW.out (fun x hx => by rw [hx]; exact HJW.out))
    clear hHeld
    go_wp2_with fail
    exact bodyPost_ret (v := .tuple #[.agg (jobC ci ca xf xd (.slice po T.length co)), .bool eb]) (by simp [results, Try.results18, go_sem, jobC, FF.out.1, FF.out.2.1, FF.out.2.2.1, FF.out.2.2.2.1, FF.out.2.2.2.2.1, FF.out.2.2.2.2.2.1, FF.out.2.2.2.2.2.2]) rfl ⟨⟨ci, ca, xf, xd, T, [], []⟩, po, T.length, co, eb, rfl, HOK2.out.symm, fun _ => ⟨by rw [HEN.out], HRF.out⟩, HKF.out⟩
   ·have HOK2 := Lib.hid (show envOk (envR 100 capId capT l) l = false from by rw [HOK.out, decide_eq_false hsl]; rfl)
    refine wp_region_noPanic ?_
    refine wp_region_held_drew (S := fun w' => HB1 29 J (jobC ci ca xf xd (.slice po T.length co)) wr w') (by kernel_rfl) ((⟨(Mods.refl (· = J) wr).drew, HX0.out⟩ : HB1 29 J (jobC ci ca xf xd (.slice po T.length co)) wr wr.drew)) (fun _ => ?_)
    have hHeld : HB1 29 J (jobC ci ca xf xd (.slice po T.length co)) wr (wr).drew := (⟨(Mods.refl (· = J) wr).drew, HX0.out⟩ : HB1 29 J (jobC ci ca xf xd (.slice po T.length co)) wr wr.drew)
    generalize World.drew wr = xs at *
    refine wpAnyH_take (i := 0) (by rfl) (by kernel_rfl) (by kernel_rfl) (by kernel_rfl) (by intro _ _ _ h; exact h) (yieldsIf_ld (by kernel_rfl) jobM (fun w' hS => hS.2) _ rfl rfl) (by assumption) ?rest12
    change wpAnyH _ _ _ _ _ _ _ (Act.put _ (some 49) _) _
    try simp only [Act.put, List.setIfInBounds_toArray, List.set_cons_zero, List.set_cons_succ]
    refine tq 1 50 ?_ (hy := fun w' hSw => by
     have hSw : HB1 29 J (jobC ci ca xf xd (.slice po T.length co)) wr w' := hSw
     have hx := hSw.1.cell vB hbj
     clear hSw
     go_simp
     try with_reducible rfl)
    refine rd1 2 (fun K hK => ?_)
    go_simp
    refine (srcODone HSd.out).mono ?_
    rintro e zd ⟨er, rfl, her, hk⟩
    have e1 : (er == 0) = false := by simpa using fun h => hsl (her.2 h)
    have HRz := Lib.hid (ownsRow_keeps HRd.out hk)
    have hb := hHeld.keeps hk
    clear hk her
    go_wp2_with fail
    refine bkm hK hb ?_
    clear hK K hHeld
    have hHeld : HB1 29 J (jobC ci ca xf xd (.slice po T.length co)) wr zd := hb
    clear hb
    refine tq 3 52 ?_
    refine tq 4 53 ?_
    refine wpAnyH_take (i := 5) (by rfl) (by kernel_rfl) (by kernel_rfl) (by kernel_rfl) (by intro _ _ _ h; exact h) (Or.inr ⟨by kernel_rfl, rfl⟩) (by assumption) ?rest16
    change wpAnyH _ _ _ _ _ _ _ (Act.put _ (some 54) _) _
    try simp only [Act.put, List.setIfInBounds_toArray, List.set_cons_zero, List.set_cons_succ]
    refine wpAnyH_take (i := 6) (by rfl) (by kernel_rfl) (by kernel_rfl) (by kernel_rfl) (by intro _ _ _ h; exact h) (Or.inr ⟨by kernel_rfl, rfl⟩) (by assumption) ?rest17
    change wpAnyH _ _ _ _ _ _ _ (Act.put _ (some 55) _) _
    try simp only [Act.put, List.setIfInBounds_toArray, List.set_cons_zero, List.set_cons_succ]
    refine tq 7 56 ?_
    refine rd1 8 (fun K hK => ?_)
    refine step_st (ds := jobC ci ca xf xd (.slice po T.length co)) rfl jobM hHeld.2 rfl (by simp [Value.oneCell']) _ _ rfl rfl rfl rfl ?_
    intro yF hBF hMF
    have hb : HB1 29 J (jobC ci ca xf xd (.slice po T.length co)) wr yF := ⟨hHeld.1.trans hMF (fun x h _ => h), hBF⟩
    clear hBF hMF
    refine bkm hK hb ?_
    clear hK K hHeld
    have hHeld : HB1 29 J (jobC ci ca xf xd (.slice po T.length co)) wr yF := hb
    clear hb
    refine tq 9 3 ?_
    refine wpAnyH_done (by kernel_rfl) ?_ _
    refine NoPanic.normal ?_
    have FF := Lib.hid (show yF.cell? ⟨J, 0, none⟩ = some (.int .i64 ci) ∧ yF.cell? ⟨J, 1, none⟩ = some (.int .i64 ca) ∧ yF.cell? ⟨J, 2, none⟩ = some (.string (bstr xf)) ∧ yF.cell? ⟨J, 3, none⟩ = some (.string (bstr xd)) ∧ yF.cell? ⟨J, 4, none⟩ = some (.slice po T.length co) ∧ yF.cell? ⟨J, 5, none⟩ = some (.slice none 0 0) ∧ yF.cell? ⟨J, 6, none⟩ = some (.slice none 0 0) from ⟨by rw [hHeld.2.cell]; rfl, by rw [hHeld.2.cell]; rfl, by rw [hHeld.2.cell]; rfl, by rw [hHeld.2.cell]; rfl, by rw [hHeld.2.cell]; rfl, by rw [hHeld.2.cell]; rfl, by rw [hHeld.2.cell]; rfl⟩)
    have HKF := Lib.hid (hHeld.1.keeps HKW.out (fun x hx => by rw [hx]; exact HJW.out))
    clear hHeld
    go_wp2_with fail
    exact bodyPost_ret (v := .tuple #[.agg (jobC ci ca xf xd (.slice po T.length co)), .bool false]) (by simp [results, Try.results18, go_sem, jobC, FF.out.1, FF.out.2.1, FF.out.2.2.1, FF.out.2.2.2.1, FF.out.2.2.2.2.1, FF.out.2.2.2.2.2.1, FF.out.2.2.2.2.2.2]) rfl ⟨⟨ci, ca, xf, xd, [], [], []⟩, po, T.length, co, false, rfl, HOK2.out.symm, by simp, HKF.out⟩
end Env
end Go.Proofs.Ytkbibhlfehamgaa
