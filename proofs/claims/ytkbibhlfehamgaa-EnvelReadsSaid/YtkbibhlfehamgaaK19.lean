/- Several texts in one: EnStep, EnRefRd, EnTwoPlain. -/
import Derived.Test.YtkbibhlfehamgaaK18
import Derived.Test.YtkbibhlfehamgaaK05
import Derived.Test.YtkbibhlfehamgaaK15
/- envel.readStep. Printed by gen_enread.py. -/
namespace Go.Proofs.Ytkbibhlfehamgaa
open Go.RowKit
namespace Env
open Adr (Str)
theorem capI_if (v : Nat) : (if (4503599627370497 : Int) < (v : Int) then (4503599627370497 : Int) else (v : Int)) = capI capT v := by
 unfold capI capT
 split <;> split <;> omega
theorem capI_le (v : Nat) : 0 ≤ capI capT v ∧ capI capT v ≤ 4503599627370497 := by
 unfold capI capT
 split <;> omega
/-- one block may change, and holds these cells -/
def HB1 (t : TypeId) (X : Nat) (cs : Array Value) (y w : World) : Prop := Mods (· = X) y w ∧ Blk w X t cs
theorem HB1.keeps {t : TypeId} {X : Nat} {cs : Array Value} {y w w' : World} (h : HB1 t X cs y w) (k : Keeps w w') : HB1 t X cs y w' := ⟨h.1.then k, h.2.keeps k⟩
def StepRet (W : World) (l : Str) (n : Nat) (e : Ending) (w' : World) : Prop :=
 e = .returned (.tuple #[.int .i64 ((stR capT l).1.1 : Nat), .agg (stA (stR capT l).1.2), .bool (stOk (stR capT l) l n)]) ∧ Keeps W w'
set_option maxRecDepth 100000 in
set_option maxHeartbeats 2000000 in
theorem readStep_any (w : World) (v : Value) (l : Str) (n : Nat) (hr : Row w v (l.map u8v)) (hl : l.length ≤ 35184372088832) (hn : n ≤ 1000000) : Calls Try.prog 19 #[v, .int .i64 (n : Int)] w (StepRet w l n) := by
 have HR := Lib.hid (hr.keeps ((Keeps.refl w).alloc (.cells #[.int .i64 0, .int .i64 0, .int .i64 0, .int .i64 0] 44)))
 have HX := Lib.hid (Blk.new w 44 #[.int .i64 0, .int .i64 0, .int .i64 0, .int .i64 0] rfl)
 have HK := Lib.hid ((Keeps.refl w).alloc (.cells #[.int .i64 0, .int .i64 0, .int .i64 0, .int .i64 0] 44))
 obtain ⟨pv, nv, cv, rfl⟩ : ∃ p n c, v = .slice p n c := let ⟨p, c, h, _⟩ := hr.form; ⟨p, _, c, h⟩
 clear hr
 have ha := uR_lt l 1 (by omega) (some 0)
 generalize hxa : (uR l 1 (some 0)).1 = xa at *
 generalize hsa : (uR l 1 (some 0)).2 = sa at *
 have hb := uR_lt l 1 (by omega) (sa)
 generalize hxb : (uR l 1 (sa)).1 = xb at *
 generalize hsb : (uR l 1 (sa)).2 = sb at *
 have hd := uR_lt l 2 (by omega) (sb)
 generalize hxd : (uR l 2 (sb)).1 = xd at *
 generalize hsd : (uR l 2 (sb)).2 = sd at *
 have he := uR_lt l 8 (by omega) (sd)
 generalize hxe : (uR l 8 (sd)).1 = xe at *
 generalize hse : (uR l 8 (sd)).2 = se at *
 have hf := uR_lt l 2 (by omega) (se)
 generalize hxf : (uR l 2 (se)).1 = xf at *
 generalize hsf : (uR l 2 (se)).2 = sf at *
 simp only [Nat.reducePow] at ha hb hd he hf
 have HE := Lib.hid (And.intro hxa (And.intro hsa (And.intro hxb (And.intro hsb (And.intro hxd (And.intro hsd (And.intro hxe (And.intro hse (And.intro hxf hsf)))))))))
 obtain ⟨ce, hce⟩ : ∃ c, capI capT xe = c := ⟨_, rfl⟩
 have hcl := capI_le xe
 have hci := capI_if xe
 rw [hce] at hcl hci
 have HS := Lib.hid (show stR capT l = ((xa, ⟨(xb : Int), (xd : Int), ce, (xf : Int)⟩), sf) from by
  unfold stR
  simp only [hxa, hsa, hxb, hsb, hxd, hsd, hxe, hse, hxf, hsf, hce])
 clear hxa hsa hxb hsb hxd hsd hxe hse hxf hsf hce
 have wa : IntKind.i64.wrap (xa : Int) = (xa : Int) := IntWalk.i64_in _ (by omega)
 have wb : IntKind.i64.wrap (xb : Int) = (xb : Int) := IntWalk.i64_in _ (by omega)
 have wd : IntKind.i64.wrap (xd : Int) = (xd : Int) := IntWalk.i64_in _ (by omega)
 have we : IntKind.i64.wrap ce = ce := IntWalk.i64_in _ (by omega)
 have wf : IntKind.i64.wrap (xf : Int) = (xf : Int) := IntWalk.i64_in _ (by omega)
 unfold StepRet
 rw [HS.out]
 have HO := Lib.hid (show stOk ((xa, ⟨(xb : Int), (xd : Int), ce, (xf : Int)⟩), sf) l n = (decide (sf = some l.length) && decide (xa < n) && goodStB ⟨(xb : Int), (xd : Int), ce, (xf : Int)⟩) from rfl)
 obtain ⟨ok, hok⟩ : ∃ b, stOk ((xa, ⟨(xb : Int), (xd : Int), ce, (xf : Int)⟩), sf) l n = b := ⟨_, rfl⟩
 rw [hok] at HO ⊢
 clear hok
 go_enter Try.func19, Try.ntmps19
 go_wp2_with fail
 refine (srcONew _ l HR.out hl).mono ?_
 rintro e z0 ⟨g, rfl, hso⟩
 have HXG := Lib.hid (show w.heap.size ≠ g from fun e => by
  have h1 := hso.ge
  have h2 := HX.out.lt
  omega)
 have HX0 := Lib.hid (HX.out.keeps hso.keepsW)
 generalize w.alloc (.cells #[.int .i64 0, .int .i64 0, .int .i64 0, .int .i64 0] 44) = w1 at *
 have HS0 := Lib.hid hso
 generalize hX : w.heap.size = X at *
 have HXX := Lib.hid hX
 clear hso hX HX HR
 go_wp2_with fail
 refine (srcOU HS0.out 1 1 rfl (by omega)).mono ?_
 rintro e z1 ⟨rfl, hso, hm⟩
 rw [HE.out.2.1] at hso
 rw [HE.out.1]
 have HS1 := Lib.hid hso
 have HX1 := Lib.hid (HX0.out.mods hm HXG.out)
 clear hso hm HS0 HX0
 go_wp2_with fail
 refine (srcOU HS1.out 1 1 rfl (by omega)).mono ?_
 rintro e z2 ⟨rfl, hso, hm⟩
 rw [HE.out.2.2.2.1] at hso
 rw [HE.out.2.2.1]
 have HS2 := Lib.hid hso
 have HX2 := Lib.hid (HX1.out.mods hm HXG.out)
 clear hso hm HS1 HX1
 go_wp2_with fail
 refine (srcOU HS2.out 2 2 rfl (by omega)).mono ?_
 rintro e z3 ⟨rfl, hso, hm⟩
 rw [HE.out.2.2.2.2.2.1] at hso
 rw [HE.out.2.2.2.2.1]
 have HS3 := Lib.hid hso
 have HX3 := Lib.hid (HX2.out.mods hm HXG.out)
 clear hso hm HS2 HX2
 go_wp2_with fail
 refine (srcOU HS3.out 8 8 rfl (by omega)).mono ?_
 rintro e z4 ⟨rfl, hso, hm⟩
 rw [HE.out.2.2.2.2.2.2.2.1] at hso
 rw [HE.out.2.2.2.2.2.2.1]
 have HS4 := Lib.hid hso
 have HX4 := Lib.hid (HX3.out.mods hm HXG.out)
 clear hso hm HS3 HX3
 go_wp2_with fail
 refine (srcOU HS4.out 2 2 rfl (by omega)).mono ?_
 rintro e z5 ⟨rfl, hso, hm⟩
 rw [HE.out.2.2.2.2.2.2.2.2.2] at hso
 rw [HE.out.2.2.2.2.2.2.2.2.1]
 have HS5 := Lib.hid hso
 have HX5 := Lib.hid (HX4.out.mods hm HXG.out)
 clear hso hm HS4 HX4
 have r0 : z5.cell? ⟨X, 0, none⟩ = some (.int .i64 0) := by rw [HX5.out.cell]; rfl
 have r1 : z5.cell? ⟨X, 1, none⟩ = some (.int .i64 0) := by rw [HX5.out.cell]; rfl
 have r2 : z5.cell? ⟨X, 2, none⟩ = some (.int .i64 0) := by rw [HX5.out.cell]; rfl
 have r3 : z5.cell? ⟨X, 3, none⟩ = some (.int .i64 0) := by rw [HX5.out.cell]; rfl
 have f0 : z5.frozen? ⟨X, 0, none⟩ = false := HX5.out.frozen _
 have f1 : z5.frozen? ⟨X, 1, none⟩ = false := HX5.out.frozen _
 have f2 : z5.frozen? ⟨X, 2, none⟩ = false := HX5.out.frozen _
 have f3 : z5.frozen? ⟨X, 3, none⟩ = false := HX5.out.frozen _
 have HXc := Lib.hid (show Blk ((((z5.setCell ⟨X, 0, none⟩ (.int .i64 (xb : Int))).setCell ⟨X, 1, none⟩ (.int .i64 (xd : Int))).setCell ⟨X, 2, none⟩ (.int .i64 ce)).setCell ⟨X, 3, none⟩ (.int .i64 (xf : Int))) X 44 (stA ⟨(xb : Int), (xd : Int), ce, (xf : Int)⟩) from (((HX5.out.set_ 0 _).set_ 1 _).set_ 2 _).set_ 3 _)
 have HMc := Lib.hid (show Mods (· = X) z5 ((((z5.setCell ⟨X, 0, none⟩ (.int .i64 (xb : Int))).setCell ⟨X, 1, none⟩ (.int .i64 (xd : Int))).setCell ⟨X, 2, none⟩ (.int .i64 ce)).setCell ⟨X, 3, none⟩ (.int .i64 (xf : Int))) from ((((Mods.refl (· = X) z5).setCell (p := ⟨X, 0, none⟩) (fun _ => rfl) _).setCell (p := ⟨X, 1, none⟩) (fun _ => rfl) _).setCell (p := ⟨X, 2, none⟩) (fun _ => rfl) _).setCell (p := ⟨X, 3, none⟩) (fun _ => rfl) _)
 have HKz := Lib.hid (HK.out.trans HS5.out.keepsW)
 go_wp2_with fail
 generalize ((((z5.setCell ⟨X, 0, none⟩ (.int .i64 (xb : Int))).setCell ⟨X, 1, none⟩ (.int .i64 (xd : Int))).setCell ⟨X, 2, none⟩ (.int .i64 ce)).setCell ⟨X, 3, none⟩ (.int .i64 (xf : Int))) = y at *
 have HSy := Lib.hid (HS5.out.core.mods HMc.out (fun x hx => by subst hx; exact ⟨HXG.out, fun cs fr hh => by have h2 := HX5.out; unfold Blk at h2; rw [h2] at hh; simp at hh⟩))
 have HKy := Lib.hid (HMc.out.keeps HKz.out (fun x hx => by rw [hx, ← HXX.out]; exact Nat.le_refl _))
 clear r0 r1 r2 r3 f0 f1 f2 f3 HX5 HMc HS5 HKz
 have HGS := Lib.hid (goodState_any ⟨(xb : Int), (xd : Int), ce, (xf : Int)⟩)
 have HX0 := Lib.hid HXc.out.drew
 have HSd := Lib.hid (HSy.out.kept ((Keeps.refl y).drew))
 unfold stA at *
 generalize goodStB ⟨(xb : Int), (xd : Int), ce, (xf : Int)⟩ = gs at *
 by_cases hsf : sf = some l.length
 ·have e0 : decide (sf = some l.length) = true := decide_eq_true hsf
  by_cases hxn : xa < n
  ·have HOK := Lib.hid (show ok = gs from by rw [HO.out, e0, decide_eq_true hxn]; simp)
   have e2 : decide ((xa : Int) < (n : Int)) = true := decide_eq_true (by omega)
   have e3 : decide (xa < n) = true := decide_eq_true hxn
   refine wp_region_noPanic ?_
   refine wp_region_held_drew (S := fun w' => HB1 44 X #[.int .i64 (xb : Int), .int .i64 (xd : Int), .int .i64 ce, .int .i64 (xf : Int)] y w') (by kernel_rfl) ((⟨(Mods.refl (· = X) y).drew, HX0.out⟩ : HB1 44 X #[.int .i64 (xb : Int), .int .i64 (xd : Int), .int .i64 ce, .int .i64 (xf : Int)] y y.drew)) (fun _ => ?_)
   have hHeld : HB1 44 X #[.int .i64 (xb : Int), .int .i64 (xd : Int), .int .i64 ce, .int .i64 (xf : Int)] y (y).drew := (⟨(Mods.refl (· = X) y).drew, HX0.out⟩ : HB1 44 X #[.int .i64 (xb : Int), .int .i64 (xd : Int), .int .i64 ce, .int .i64 (xf : Int)] y y.drew)
   generalize World.drew y = xs at *
   refine tq 0 27 ?_
   refine tq 1 28 ?_ (hy := fun w' hSw => by
    have hSw : HB1 44 X #[.int .i64 (xb : Int), .int .i64 (xd : Int), .int .i64 ce, .int .i64 (xf : Int)] y w' := hSw
    have h0 := hSw.2.cell 0
    have h1 := hSw.2.cell 1
    have h2 := hSw.2.cell 2
    have h3 := hSw.2.cell 3
    simp only [List.getElem?_toArray, List.getElem?_cons_zero, List.getElem?_cons_succ] at h0 h1 h2 h3
    clear hSw
    go_simp
    try with_reducible rfl)
   refine tq 2 29 ?_
   refine rd1 3 (fun K hK => ?_)
   go_simp
   refine (srcODone HSd.out).mono ?_
   rintro e zd ⟨er, rfl, her, hk⟩
   have e1 : (er == 0) = true := by simpa using her.1 hsf
   have hb := hHeld.keeps hk
   clear hk her
   go_wp2_with fail
   refine bkm hK hb ?_
   clear hK K hHeld
   have hHeld : HB1 44 X #[.int .i64 (xb : Int), .int .i64 (xd : Int), .int .i64 ce, .int .i64 (xf : Int)] y zd := hb
   clear hb
   refine tq 4 31 ?_
   refine tq 5 32 ?_
   refine tq 6 33 ?_
   refine tq 7 34 ?_
   refine tq 8 35 ?_
   refine tq 9 36 ?_
   refine tq 10 37 ?_
   refine tq 11 38 ?_ (hy := fun w' hSw => by
    have hSw : HB1 44 X #[.int .i64 (xb : Int), .int .i64 (xd : Int), .int .i64 ce, .int .i64 (xf : Int)] y w' := hSw
    have h0 := hSw.2.cell 0
    have h1 := hSw.2.cell 1
    have h2 := hSw.2.cell 2
    have h3 := hSw.2.cell 3
    simp only [List.getElem?_toArray, List.getElem?_cons_zero, List.getElem?_cons_succ] at h0 h1 h2 h3
    clear hSw
    go_simp
    try with_reducible rfl)
   refine rd1 12 (fun K hK => ?_)
   go_simp
   refine (HGS.out _).mono ?_
   rintro e zg ⟨rfl, hk⟩
   have hb := hHeld.keeps hk
   clear hk
   go_wp2_with fail
   refine bkm hK hb ?_
   clear hK K hHeld
   have hHeld : HB1 44 X #[.int .i64 (xb : Int), .int .i64 (xd : Int), .int .i64 ce, .int .i64 (xf : Int)] y zg := hb
   clear hb
   refine tq 13 40 ?_
   refine tq 14 4 ?_
   refine rd1 15 (fun K hK => ?_)
   refine step_st (ds := #[.int .i64 (xb : Int), .int .i64 (xd : Int), .int .i64 ce, .int .i64 (xf : Int)]) rfl stM hHeld.2 rfl (by simp [Value.oneCell']) _ _ rfl rfl rfl rfl ?_
   intro yF hBF hMF
   have hb : HB1 44 X #[.int .i64 (xb : Int), .int .i64 (xd : Int), .int .i64 ce, .int .i64 (xf : Int)] y yF := ⟨hHeld.1.trans hMF (fun x h _ => h), hBF⟩
   clear hBF hMF
   refine bkm hK hb ?_
   clear hK K hHeld
   have hHeld : HB1 44 X #[.int .i64 (xb : Int), .int .i64 (xd : Int), .int .i64 ce, .int .i64 (xf : Int)] y yF := hb
   clear hb
   refine tq 16 6 ?_
   refine wpAnyH_done (by kernel_rfl) ?_ _
   refine NoPanic.normal ?_
   have HF := Lib.hid (show yF.cell? ⟨X, 0, none⟩ = some (.int .i64 (xb : Int)) ∧ yF.cell? ⟨X, 1, none⟩ = some (.int .i64 (xd : Int)) ∧ yF.cell? ⟨X, 2, none⟩ = some (.int .i64 ce) ∧ yF.cell? ⟨X, 3, none⟩ = some (.int .i64 (xf : Int)) from ⟨by rw [hHeld.2.cell]; rfl, by rw [hHeld.2.cell]; rfl, by rw [hHeld.2.cell]; rfl, by rw [hHeld.2.cell]; rfl⟩)
   have HKF := Lib.hid (hHeld.1.keeps HKy.out (fun x hx => by rw [hx, ← HXX.out]; exact Nat.le_refl _))
   clear hHeld
   go_wp2_with fail
   exact bodyPost_ret (v := .tuple #[.int .i64 (xa : Int), .agg #[.int .i64 (xb : Int), .int .i64 (xd : Int), .int .i64 ce, .int .i64 (xf : Int)], .bool gs]) (by simp [results, Try.results19, go_sem, HF.out.1, HF.out.2.1, HF.out.2.2.1, HF.out.2.2.2]) rfl ⟨by rw [HOK.out]; rfl, HKF.out⟩
  ·have HOK := Lib.hid (show ok = false from by rw [HO.out, e0, decide_eq_false hxn]; simp)
   have e2 : decide ((xa : Int) < (n : Int)) = false := decide_eq_false (by omega)
   have e3 : decide (xa < n) = false := decide_eq_false hxn
   refine wp_region_noPanic ?_
   refine wp_region_held_drew (S := fun w' => HB1 44 X #[.int .i64 (xb : Int), .int .i64 (xd : Int), .int .i64 ce, .int .i64 (xf : Int)] y w') (by kernel_rfl) ((⟨(Mods.refl (· = X) y).drew, HX0.out⟩ : HB1 44 X #[.int .i64 (xb : Int), .int .i64 (xd : Int), .int .i64 ce, .int .i64 (xf : Int)] y y.drew)) (fun _ => ?_)
   have hHeld : HB1 44 X #[.int .i64 (xb : Int), .int .i64 (xd : Int), .int .i64 ce, .int .i64 (xf : Int)] y (y).drew := (⟨(Mods.refl (· = X) y).drew, HX0.out⟩ : HB1 44 X #[.int .i64 (xb : Int), .int .i64 (xd : Int), .int .i64 ce, .int .i64 (xf : Int)] y y.drew)
   generalize World.drew y = xs at *
   refine tq 0 27 ?_
   refine tq 1 28 ?_ (hy := fun w' hSw => by
    have hSw : HB1 44 X #[.int .i64 (xb : Int), .int .i64 (xd : Int), .int .i64 ce, .int .i64 (xf : Int)] y w' := hSw
    have h0 := hSw.2.cell 0
    have h1 := hSw.2.cell 1
    have h2 := hSw.2.cell 2
    have h3 := hSw.2.cell 3
    simp only [List.getElem?_toArray, List.getElem?_cons_zero, List.getElem?_cons_succ] at h0 h1 h2 h3
    clear hSw
    go_simp
    try with_reducible rfl)
   refine tq 2 29 ?_
   refine rd1 3 (fun K hK => ?_)
   go_simp
   refine (srcODone HSd.out).mono ?_
   rintro e zd ⟨er, rfl, her, hk⟩
   have e1 : (er == 0) = true := by simpa using her.1 hsf
   have hb := hHeld.keeps hk
   clear hk her
   go_wp2_with fail
   refine bkm hK hb ?_
   clear hK K hHeld
   have hHeld : HB1 44 X #[.int .i64 (xb : Int), .int .i64 (xd : Int), .int .i64 ce, .int .i64 (xf : Int)] y zd := hb
   clear hb
   refine tq 4 31 ?_
   refine tq 5 32 ?_
   refine tq 6 33 ?_
   refine tq 7 34 ?_
   refine tq 8 35 ?_
   refine tq 9 36 ?_
   refine tq 10 37 ?_
   refine wpAnyH_take (i := 11) (by rfl) (by kernel_rfl) (by kernel_rfl) (by kernel_rfl) (by intro _ _ _ h; exact h) (Or.inr ⟨by kernel_rfl, rfl⟩) (by assumption) ?rest25
   change wpAnyH _ _ _ _ _ _ _ (Act.put _ (some 38) _) _
   try simp only [Act.put, List.setIfInBounds_toArray, List.set_cons_zero, List.set_cons_succ]
   refine wpAnyH_take (i := 12) (by rfl) (by kernel_rfl) (by kernel_rfl) (by kernel_rfl) (by intro _ _ _ h; exact h) (Or.inr ⟨by kernel_rfl, rfl⟩) (by assumption) ?rest26
   change wpAnyH _ _ _ _ _ _ _ (Act.put _ (some 39) _) _
   try simp only [Act.put, List.setIfInBounds_toArray, List.set_cons_zero, List.set_cons_succ]
   refine tq 13 40 ?_
   refine tq 14 4 ?_
   refine rd1 15 (fun K hK => ?_)
   refine step_st (ds := #[.int .i64 (xb : Int), .int .i64 (xd : Int), .int .i64 ce, .int .i64 (xf : Int)]) rfl stM hHeld.2 rfl (by simp [Value.oneCell']) _ _ rfl rfl rfl rfl ?_
   intro yF hBF hMF
   have hb : HB1 44 X #[.int .i64 (xb : Int), .int .i64 (xd : Int), .int .i64 ce, .int .i64 (xf : Int)] y yF := ⟨hHeld.1.trans hMF (fun x h _ => h), hBF⟩
   clear hBF hMF
   refine bkm hK hb ?_
   clear hK K hHeld
   have hHeld : HB1 44 X #[.int .i64 (xb : Int), .int .i64 (xd : Int), .int .i64 ce, .int .i64 (xf : Int)] y yF := hb
   clear hb
   refine tq 16 6 ?_
   refine wpAnyH_done (by kernel_rfl) ?_ _
   refine NoPanic.normal ?_
   have HF := Lib.hid (show yF.cell? ⟨X, 0, none⟩ = some (.int .i64 (xb : Int)) ∧ yF.cell? ⟨X, 1, none⟩ = some (.int .i64 (xd : Int)) ∧ yF.cell? ⟨X, 2, none⟩ = some (.int .i64 ce) ∧ yF.cell? ⟨X, 3, none⟩ = some (.int .i64 (xf : Int)) from ⟨by rw [hHeld.2.cell]; rfl, by rw [hHeld.2.cell]; rfl, by rw [hHeld.2.cell]; rfl, by rw [hHeld.2.cell]; rfl⟩)
   have HKF := Lib.hid (hHeld.1.keeps HKy.out (fun x hx => by rw [hx, ← HXX.out]; exact Nat.le_refl _))
   clear hHeld
   go_wp2_with fail
   exact bodyPost_ret (v := .tuple #[.int .i64 (xa : Int), .agg #[.int .i64 (xb : Int), .int .i64 (xd : Int), .int .i64 ce, .int .i64 (xf : Int)], .bool false]) (by simp [results, Try.results19, go_sem, HF.out.1, HF.out.2.1, HF.out.2.2.1, HF.out.2.2.2]) rfl ⟨by rw [HOK.out]; rfl, HKF.out⟩
 ·have HOK := Lib.hid (show ok = false from by rw [HO.out, decide_eq_false hsf]; simp)
  refine wp_region_noPanic ?_
  refine wp_region_held_drew (S := fun w' => HB1 44 X #[.int .i64 (xb : Int), .int .i64 (xd : Int), .int .i64 ce, .int .i64 (xf : Int)] y w') (by kernel_rfl) ((⟨(Mods.refl (· = X) y).drew, HX0.out⟩ : HB1 44 X #[.int .i64 (xb : Int), .int .i64 (xd : Int), .int .i64 ce, .int .i64 (xf : Int)] y y.drew)) (fun _ => ?_)
  have hHeld : HB1 44 X #[.int .i64 (xb : Int), .int .i64 (xd : Int), .int .i64 ce, .int .i64 (xf : Int)] y (y).drew := (⟨(Mods.refl (· = X) y).drew, HX0.out⟩ : HB1 44 X #[.int .i64 (xb : Int), .int .i64 (xd : Int), .int .i64 ce, .int .i64 (xf : Int)] y y.drew)
  generalize World.drew y = xs at *
  refine tq 0 27 ?_
  refine tq 1 28 ?_ (hy := fun w' hSw => by
   have hSw : HB1 44 X #[.int .i64 (xb : Int), .int .i64 (xd : Int), .int .i64 ce, .int .i64 (xf : Int)] y w' := hSw
   have h0 := hSw.2.cell 0
   have h1 := hSw.2.cell 1
   have h2 := hSw.2.cell 2
   have h3 := hSw.2.cell 3
   simp only [List.getElem?_toArray, List.getElem?_cons_zero, List.getElem?_cons_succ] at h0 h1 h2 h3
   clear hSw
   go_simp
   try with_reducible rfl)
  refine tq 2 29 ?_
  refine rd1 3 (fun K hK => ?_)
  go_simp
  refine (srcODone HSd.out).mono ?_
  rintro e zd ⟨er, rfl, her, hk⟩
  have e1 : (er == 0) = false := by simpa using fun h => hsf (her.2 h)
  have hb := hHeld.keeps hk
  clear hk her
  go_wp2_with fail
  refine bkm hK hb ?_
  clear hK K hHeld
  have hHeld : HB1 44 X #[.int .i64 (xb : Int), .int .i64 (xd : Int), .int .i64 ce, .int .i64 (xf : Int)] y zd := hb
  clear hb
  refine tq 4 31 ?_
  refine tq 5 32 ?_
  refine wpAnyH_take (i := 6) (by rfl) (by kernel_rfl) (by kernel_rfl) (by kernel_rfl) (by intro _ _ _ h; exact h) (Or.inr ⟨by kernel_rfl, rfl⟩) (by assumption) ?rest35
  change wpAnyH _ _ _ _ _ _ _ (Act.put _ (some 33) _) _
  try simp only [Act.put, List.setIfInBounds_toArray, List.set_cons_zero, List.set_cons_succ]
  refine wpAnyH_take (i := 7) (by rfl) (by kernel_rfl) (by kernel_rfl) (by kernel_rfl) (by intro _ _ _ h; exact h) (Or.inr ⟨by kernel_rfl, rfl⟩) (by assumption) ?rest36
  change wpAnyH _ _ _ _ _ _ _ (Act.put _ (some 34) _) _
  try simp only [Act.put, List.setIfInBounds_toArray, List.set_cons_zero, List.set_cons_succ]
  refine wpAnyH_take (i := 8) (by rfl) (by kernel_rfl) (by kernel_rfl) (by kernel_rfl) (by intro _ _ _ h; exact h) (Or.inr ⟨by kernel_rfl, rfl⟩) (by assumption) ?rest37
  change wpAnyH _ _ _ _ _ _ _ (Act.put _ (some 35) _) _
  try simp only [Act.put, List.setIfInBounds_toArray, List.set_cons_zero, List.set_cons_succ]
  refine tq 9 36 ?_
  refine tq 10 37 ?_
  refine wpAnyH_take (i := 11) (by rfl) (by kernel_rfl) (by kernel_rfl) (by kernel_rfl) (by intro _ _ _ h; exact h) (Or.inr ⟨by kernel_rfl, rfl⟩) (by assumption) ?rest40
  change wpAnyH _ _ _ _ _ _ _ (Act.put _ (some 38) _) _
  try simp only [Act.put, List.setIfInBounds_toArray, List.set_cons_zero, List.set_cons_succ]
  refine wpAnyH_take (i := 12) (by rfl) (by kernel_rfl) (by kernel_rfl) (by kernel_rfl) (by intro _ _ _ h; exact h) (Or.inr ⟨by kernel_rfl, rfl⟩) (by assumption) ?rest41
  change wpAnyH _ _ _ _ _ _ _ (Act.put _ (some 39) _) _
  try simp only [Act.put, List.setIfInBounds_toArray, List.set_cons_zero, List.set_cons_succ]
  refine tq 13 40 ?_
  refine tq 14 4 ?_
  refine rd1 15 (fun K hK => ?_)
  refine step_st (ds := #[.int .i64 (xb : Int), .int .i64 (xd : Int), .int .i64 ce, .int .i64 (xf : Int)]) rfl stM hHeld.2 rfl (by simp [Value.oneCell']) _ _ rfl rfl rfl rfl ?_
  intro yF hBF hMF
  have hb : HB1 44 X #[.int .i64 (xb : Int), .int .i64 (xd : Int), .int .i64 ce, .int .i64 (xf : Int)] y yF := ⟨hHeld.1.trans hMF (fun x h _ => h), hBF⟩
  clear hBF hMF
  refine bkm hK hb ?_
  clear hK K hHeld
  have hHeld : HB1 44 X #[.int .i64 (xb : Int), .int .i64 (xd : Int), .int .i64 ce, .int .i64 (xf : Int)] y yF := hb
  clear hb
  refine tq 16 6 ?_
  refine wpAnyH_done (by kernel_rfl) ?_ _
  refine NoPanic.normal ?_
  have HF := Lib.hid (show yF.cell? ⟨X, 0, none⟩ = some (.int .i64 (xb : Int)) ∧ yF.cell? ⟨X, 1, none⟩ = some (.int .i64 (xd : Int)) ∧ yF.cell? ⟨X, 2, none⟩ = some (.int .i64 ce) ∧ yF.cell? ⟨X, 3, none⟩ = some (.int .i64 (xf : Int)) from ⟨by rw [hHeld.2.cell]; rfl, by rw [hHeld.2.cell]; rfl, by rw [hHeld.2.cell]; rfl, by rw [hHeld.2.cell]; rfl⟩)
  have HKF := Lib.hid (hHeld.1.keeps HKy.out (fun x hx => by rw [hx, ← HXX.out]; exact Nat.le_refl _))
  clear hHeld
  go_wp2_with fail
  exact bodyPost_ret (v := .tuple #[.int .i64 (xa : Int), .agg #[.int .i64 (xb : Int), .int .i64 (xd : Int), .int .i64 ce, .int .i64 (xf : Int)], .bool false]) (by simp [results, Try.results19, go_sem, HF.out.1, HF.out.2.1, HF.out.2.2.1, HF.out.2.2.2]) rfl ⟨by rw [HOK.out]; rfl, HKF.out⟩
end Env
end Go.Proofs.Ytkbibhlfehamgaa

/- ref15's reader. -/
namespace Go.Proofs.Ytkbibhlfehamgaa
open Go.RowKit
namespace Env
open Adr (Str)
open Oct (getV getB okk rGet_any)
def m63 : Nat := 9223372036854775807
def mT : Nat := 4294967296
/-- the document's reader at block g -/
def RrAt (w : World) (g base : Nat) (bv : Value) (l : Str) (σ : Option Nat) : Prop :=
 ∃ (a : Nat) (bad : Bool), Blk w g 63 #[bv, .int .i64 (a : Int), .bool bad] ∧ (bad = true ↔ σ = none) ∧ (∀ x, σ = some x → a = x) ∧ a ≤ l.length ∧ l.length ≤ 1000000000000 ∧ Piece w base 5 bv (l.map u8v)
section
variable {w w' : World} {g base : Nat} {bv : Value} {l : Str} {σ : Option Nat}
theorem RrAt.kept (h : RrAt w g base bv l σ) (k : Keeps w w') : RrAt w' g base bv l σ := let ⟨a, bad, h1, h2, h3, h4, h5, h6⟩ := h; ⟨a, bad, h1.keeps k, h2, h3, h4, h5, h6.keeps k⟩
theorem RrAt.lt (h : RrAt w g base bv l σ) : g < w.heap.size := let ⟨_, _, h1, _⟩ := h; h1.lt
theorem RrAt.mods {S : Nat → Prop} (h : RrAt w g base bv l σ) (k : Mods S w w') (h1 : ¬ S g) (h2 : ∀ x, S x → ∀ cs fr, w.heap[x]? ≠ some (.cells cs 5 fr)) : RrAt w' g base bv l σ := let ⟨a, bad, g1, g2, g3, g4, g5, g6⟩ := h; ⟨a, bad, g1.mods k h1, g2, g3, g4, g5, g6.modsT k h2⟩
end
theorem get_plain {l : Str} {a k : Nat} (hk : 1 ≤ k ∧ k ≤ 8) : getB l a k = decide (a + k ≤ l.length) ∧ (a + k ≤ l.length → getV l a k = Oct.valOf ((l.drop a).take k)) := by
 have hok : okk (k : Int) = true := by simp [okk]; omega
 have h1 : getB l a k = decide (a + k ≤ l.length) := by
  unfold getB
  rw [hok, Bool.true_and]
  exact decide_eq_decide.2 (by omega)
 refine ⟨h1, fun h => ?_⟩
 unfold getV
 rw [if_pos (by rw [h1]; exact decide_eq_true h)]
 simp
theorem cap63_if (v : Nat) : (if (9223372036854775807 : Int) < (v : Int) then (9223372036854775807 : Int) else (v : Int)) = capI m63 v := by
 unfold capI m63
 split <;> split <;> omega
set_option maxRecDepth 100000 in
set_option maxHeartbeats 2000000 in
theorem rnum_any (w : World) (g base : Nat) (bv : Value) (l : Str) (σ : Option Nat) (h : RrAt w g base bv l σ) (k : Nat) (ki : Int) (hki : ki = (k : Int)) (hk : 1 ≤ k ∧ k ≤ 8) :
  Calls Try.prog 21 #[.pointer (some ⟨g, 0, none⟩), .int .i64 ki] w fun e w' => e = .returned (.int .i64 (capI m63 (uR l k σ).1)) ∧ RrAt w' g base bv l (uR l k σ).2 ∧ Mods (· = g) w w' := by
 subst hki
 obtain ⟨a, bad, hB, hbad, ha, hal, hll, hP⟩ := h
 obtain ⟨p, cap, hbv, hc1, hc2⟩ := hP.form
 rw [List.length_map] at hbv
 subst hbv
 have HB := Lib.hid hB
 have HP := Lib.hid hP
 have HG := Lib.hid (fun w' (hw : Keeps w w') => rGet_any _ l a k w' (hP.keeps hw).row)
 obtain ⟨p1, p2⟩ := get_plain (l := l) (a := a) hk
 rw [p1] at HG
 have HV := Lib.hid p2
 have HBAD := Lib.hid (And.intro hbad ha)
 have hty := Lib.hid (fun x (hx : x = g) => show ∀ cs fr, w.heap[x]? ≠ some (.cells cs 5 fr) from fun cs fr hh => by
  subst hx
  unfold Blk at hB
  rw [hB] at hh
  simp at hh)
 have b0 : w.cell? ⟨g, 0, none⟩ = some (.slice p l.length cap) := by rw [hB.cell]; rfl
 have b1 : w.cell? ⟨g, 1, none⟩ = some (.int .i64 (a : Int)) := by rw [hB.cell]; rfl
 have b2 : w.cell? ⟨g, 2, none⟩ = some (.bool bad) := by rw [hB.cell]; rfl
 clear hB hP hbad ha p1 p2 hc1
 generalize getV l a k = v at *
 by_cases hs : bad = false ∧ a + k ≤ l.length
 ·obtain ⟨rfl, hle⟩ := hs
  have hσ : σ = some a := by
   cases σ with
   | none => have := HBAD.out.1.2 rfl; simp at this
   | some x => rw [HBAD.out.2 x rfl]
  have HU := Lib.hid (show uR l k σ = (v, some (a + k)) from by
   rw [hσ]
   unfold uR
   simp only
   rw [if_pos hle, HV.out hle])
  rw [HU.out]
  have ed : decide (a + k ≤ l.length) = true := decide_eq_true hle
  rw [ed] at HG
  have hw : IntKind.i64.wrap ((a : Int) + (k : Int)) = ((a + k : Nat) : Int) := by rw [show ((a : Int) + (k : Int)) = ((a + k : Nat) : Int) by omega]; exact IntWalk.i64_in _ (by omega)
  have HC := Lib.hid (cap63_if v)
  clear hσ HV ed
  go_enter Try.func21, Try.ntmps21
  go_wp2_with fail
  refine wp_region_noPanic ?_
  refine wp_region_held_drew (S := fun w' => Keeps w w') (by kernel_rfl) (((Keeps.refl w).drew)) (fun _ => ?_)
  have hHeld : Keeps w (w).drew := ((Keeps.refl w).drew)
  generalize World.drew w = xs at *
  refine tq 0 8 ?_
  refine tq 1 9 ?_
  refine tq 2 10 ?_
  refine tq 3 11 ?_ (hy := fun w' hSw => by
   have hSw : Keeps w w' := hSw
   have hx := keep1 hSw b0
   clear hSw
   go_simp
   try with_reducible rfl)
  refine tq 4 12 ?_
  refine tq 5 13 ?_
  refine tq 6 14 ?_
  refine tq 7 15 ?_ (hy := fun w' hSw => by
   have hSw : Keeps w w' := hSw
   have hx := keep1 hSw b1
   clear hSw
   go_simp
   try with_reducible rfl)
  refine tq 8 16 ?_
  refine rd1 9 (fun K hK => ?_)
  go_simp
  refine (HG.out _ hHeld).mono ?_
  rintro e zz ⟨rfl, rfl⟩
  have hb := hHeld
  go_wp2_with fail
  refine bkm hK hb ?_
  clear hK K hHeld
  have hHeld : Keeps w xs := hb
  clear hb
  refine tq 10 7 ?_
  refine tq 11 18 ?_
  refine tq 12 19 ?_
  refine tq 13 5 ?_
  refine tq 14 6 ?_
  refine wpAnyH_done (by kernel_rfl) ?_ _
  refine NoPanic.normal ?_
  have c1 := keep1 hHeld b1
  have c2 := keep1 hHeld b2
  have z1 : World.frozen? xs ⟨g, 1, none⟩ = false := (HB.out.keeps hHeld).frozen 1
  have HBF := Lib.hid (show Blk (xs.setCell ⟨g, 1, none⟩ (.int .i64 ((a + k : Nat) : Int))) g 63 #[.slice p l.length cap, .int .i64 ((a + k : Nat) : Int), .bool false] from (HB.out.keeps hHeld).set_ 1 _)
  have HMF := Lib.hid ((Mods.of_keeps (S := (· = g)) hHeld).setCell (p := ⟨g, 1, none⟩) (fun _ => rfl) (.int .i64 ((a + k : Nat) : Int)))
  have HRF := Lib.hid (show RrAt (xs.setCell ⟨g, 1, none⟩ (.int .i64 ((a + k : Nat) : Int))) g base (.slice p l.length cap) l (some (a + k)) from ⟨a + k, false, HBF.out, by simp, by simp, hle, hll, HP.out.modsT HMF.out hty.out⟩)
  clear hHeld b0 b1 b2
  by_cases hv : (9223372036854775807 : Int) < (v : Int)
  ·have HC2 := Lib.hid (HC.out.symm.trans (if_pos hv))
   go_wp2_with fail
   go_ret
   exact ⟨by rw [HC2.out]; rfl, HRF.out, HMF.out⟩
  ·have HC2 := Lib.hid (HC.out.symm.trans (if_neg hv))
   have wv : IntKind.i64.wrap (v : Int) = (v : Int) := IntWalk.i64_in _ (by omega)
   go_wp2_with fail
   go_ret
   exact ⟨by rw [HC2.out]; rfl, HRF.out, HMF.out⟩
 ·have HU := Lib.hid (show uR l k σ = (0, none) from by
   cases σ with
   | none => rfl
   | some x =>
    have := HBAD.out.2 x rfl
    subst this
    have hb : bad = false := by
     cases bad with
     | false => rfl
     | true => have := HBAD.out.1.1 rfl; simp at this
    unfold uR
    simp only
    rw [if_neg (fun h => hs ⟨hb, h⟩)])
  rw [HU.out]
  obtain ⟨is, his⟩ : ∃ b, decide (a + k ≤ l.length) = b := ⟨_, rfl⟩
  rw [his] at HG
  have HIS := Lib.hid (show is = true → bad = true from fun h => by
   subst h
   cases bad with
   | true => rfl
   | false => exact absurd ⟨rfl, of_decide_eq_true his⟩ hs)
  clear his hs HV HBAD
  go_enter Try.func21, Try.ntmps21
  go_wp2_with fail
  refine wp_region_noPanic ?_
  refine wp_region_held_drew (S := fun w' => Keeps w w') (by kernel_rfl) (((Keeps.refl w).drew)) (fun _ => ?_)
  have hHeld : Keeps w (w).drew := ((Keeps.refl w).drew)
  generalize World.drew w = xs at *
  refine tq 0 8 ?_
  refine tq 1 9 ?_
  refine tq 2 10 ?_
  refine tq 3 11 ?_ (hy := fun w' hSw => by
   have hSw : Keeps w w' := hSw
   have hx := keep1 hSw b0
   clear hSw
   go_simp
   try with_reducible rfl)
  refine tq 4 12 ?_
  refine tq 5 13 ?_
  refine tq 6 14 ?_
  refine tq 7 15 ?_ (hy := fun w' hSw => by
   have hSw : Keeps w w' := hSw
   have hx := keep1 hSw b1
   clear hSw
   go_simp
   try with_reducible rfl)
  refine tq 8 16 ?_
  refine rd1 9 (fun K hK => ?_)
  go_simp
  refine (HG.out _ hHeld).mono ?_
  rintro e zz ⟨rfl, rfl⟩
  have hb := hHeld
  go_wp2_with fail
  refine bkm hK hb ?_
  clear hK K hHeld
  have hHeld : Keeps w xs := hb
  clear hb
  refine tq 10 7 ?_
  refine tq 11 18 ?_
  refine tq 12 19 ?_
  refine tq 13 5 ?_
  refine tq 14 6 ?_
  refine wpAnyH_done (by kernel_rfl) ?_ _
  refine NoPanic.normal ?_
  have c2 := keep1 hHeld b2
  have z2 : World.frozen? xs ⟨g, 2, none⟩ = false := (HB.out.keeps hHeld).frozen 2
  have HBF := Lib.hid (show Blk (xs.setCell ⟨g, 2, none⟩ (.bool true)) g 63 #[.slice p l.length cap, .int .i64 (a : Int), .bool true] from (HB.out.keeps hHeld).set_ 2 _)
  have HMF := Lib.hid ((Mods.of_keeps (S := (· = g)) hHeld).setCell (p := ⟨g, 2, none⟩) (fun _ => rfl) (.bool true))
  have HRF := Lib.hid (show RrAt (xs.setCell ⟨g, 2, none⟩ (.bool true)) g base (.slice p l.length cap) l none from ⟨a, true, HBF.out, by simp, by simp, hal, hll, HP.out.modsT HMF.out hty.out⟩)
  clear hHeld b0 b1 b2
  cases is with
  | false =>
   go_wp2_with fail
   go_ret
   exact ⟨rfl, HRF.out, HMF.out⟩
  | true =>
   obtain rfl := HIS.out rfl
   go_wp2_with fail
   go_ret
   exact ⟨rfl, HRF.out, HMF.out⟩
theorem str_at5 {w : World} {v : Value} {l : List UInt8} (h : Row w v (l.map u8v)) : (convert 22 9 v).run Try.prog w = .ok (.string (bstr l)) w := h.str Try.underlying22 Try.underlying5 Try.underlying9
set_option maxRecDepth 100000 in
set_option maxHeartbeats 2000000 in
theorem rtext_any (w : World) (g base : Nat) (bv : Value) (l : Str) (σ : Option Nat) (h : RrAt w g base bv l σ) :
  Calls Try.prog 22 #[.pointer (some ⟨g, 0, none⟩)] w fun e w' => e = .returned (.string (bstr (tR l mT σ).1)) ∧ RrAt w' g base bv l (tR l mT σ).2 ∧ Mods (· = g) w w' := by
 have HN := Lib.hid (rnum_any w g base bv l σ h 4 4 rfl (by decide))
 have hb := uR_lt l 4 (by omega) σ
 have HT := Lib.hid (show tR l mT σ = (match uR l 4 σ with
  | (_, none) => ([], none)
  | (n, some a) => if n ≤ mT ∧ a + n ≤ l.length then ((l.drop a).take n, some (a + n)) else ([], none)) from rfl)
 have HLT := Lib.hid h.lt
 obtain ⟨p, cap, rfl⟩ : ∃ p cap, bv = .slice p l.length cap := by
  obtain ⟨a, bad, h1, h2, h3, h4, h5, h6⟩ := h
  obtain ⟨p, cap, hv, -, -⟩ := h6.form
  rw [List.length_map] at hv
  exact ⟨p, cap, hv⟩
 clear h
 generalize uR l 4 σ = un at *
 obtain ⟨n, σ1⟩ := un
 simp only [Nat.reducePow] at HN hb HT
 have hcap : capI m63 n = (n : Int) := by unfold capI m63; rw [if_pos (by omega)]
 rw [hcap] at HN
 clear hcap
 go_enter Try.func22, Try.ntmps22
 go_wp2_with fail
 refine HN.out.mono ?_
 rintro e w1 ⟨rfl, hr, hm⟩
 have HM := Lib.hid hm
 obtain ⟨a, bad, hB, hbad, ha, hal, hll, hP⟩ := hr
 have HB := Lib.hid hB
 have HP := Lib.hid hP
 have HBAD := Lib.hid (And.intro hbad ha)
 have hty := Lib.hid (fun x (hx : x = g) => show ∀ cs fr, w1.heap[x]? ≠ some (.cells cs 5 fr) from fun cs fr hh => by
  subst hx
  unfold Blk at hB
  rw [hB] at hh
  simp at hh)
 have b0 : w1.cell? ⟨g, 0, none⟩ = some (.slice p l.length cap) := by rw [hB.cell]; rfl
 have b1 : w1.cell? ⟨g, 1, none⟩ = some (.int .i64 (a : Int)) := by rw [hB.cell]; rfl
 have b2 : w1.cell? ⟨g, 2, none⟩ = some (.bool bad) := by rw [hB.cell]; rfl
 have hwl : IntKind.i64.wrap ((l.length : Int) - (a : Int)) = (l.length : Int) - (a : Int) := IntWalk.i64_in _ (by omega)
 clear hm hB hP hbad ha HN
 cases bad with
 | true =>
  have hσ : σ1 = none := HBAD.out.1.1 rfl
  subst hσ
  have HT2 := Lib.hid (show tR l mT σ = ([], none) from HT.out)
  go_wp2_with fail
  refine wp_region_noPanic ?_
  refine wp_region_held_drew (S := fun w' => Keeps w1 w') (by kernel_rfl) (((Keeps.refl w1).drew)) (fun _ => ?_)
  have hHeld : Keeps w1 (w1).drew := ((Keeps.refl w1).drew)
  generalize World.drew w1 = xs at *
  refine tq 0 6 ?_
  refine tq 1 7 ?_
  refine tq 2 8 ?_
  refine tq 3 9 ?_ (hy := fun w' hSw => by
   have hSw : Keeps w1 w' := hSw
   have hx := keep1 hSw b2
   clear hSw
   go_simp
   try with_reducible rfl)
  refine tq 4 10 ?_
  refine wpAnyH_take (i := 5) (by rfl) (by kernel_rfl) (by kernel_rfl) (by kernel_rfl) (by intro _ _ _ h; exact h) (Or.inr ⟨by kernel_rfl, rfl⟩) (by assumption) ?rest34
  change wpAnyH _ _ _ _ _ _ _ (Act.put _ (some 11) _) _
  try simp only [Act.put, List.setIfInBounds_toArray, List.set_cons_zero, List.set_cons_succ]
  refine wpAnyH_take (i := 6) (by rfl) (by kernel_rfl) (by kernel_rfl) (by kernel_rfl) (by intro _ _ _ h; exact h) (Or.inr ⟨by kernel_rfl, rfl⟩) (by assumption) ?rest35
  change wpAnyH _ _ _ _ _ _ _ (Act.put _ (some 12) _) _
  try simp only [Act.put, List.setIfInBounds_toArray, List.set_cons_zero, List.set_cons_succ]
  refine wpAnyH_take (i := 7) (by rfl) (by kernel_rfl) (by kernel_rfl) (by kernel_rfl) (by intro _ _ _ h; exact h) (Or.inr ⟨by kernel_rfl, rfl⟩) (by assumption) ?rest36
  change wpAnyH _ _ _ _ _ _ _ (Act.put _ (some 13) _) _
  try simp only [Act.put, List.setIfInBounds_toArray, List.set_cons_zero, List.set_cons_succ]
  refine wpAnyH_take (i := 8) (by rfl) (by kernel_rfl) (by kernel_rfl) (by kernel_rfl) (by intro _ _ _ h; exact h) (Or.inr ⟨by kernel_rfl, rfl⟩) (by assumption) ?rest37
  change wpAnyH _ _ _ _ _ _ _ (Act.put _ (some 14) _) _
  try simp only [Act.put, List.setIfInBounds_toArray, List.set_cons_zero, List.set_cons_succ]
  refine wpAnyH_take (i := 9) (by rfl) (by kernel_rfl) (by kernel_rfl) (by kernel_rfl) (by intro _ _ _ h; exact h) (Or.inr ⟨by kernel_rfl, rfl⟩) (by assumption) ?rest38
  change wpAnyH _ _ _ _ _ _ _ (Act.put _ (some 15) _) _
  try simp only [Act.put, List.setIfInBounds_toArray, List.set_cons_zero, List.set_cons_succ]
  refine wpAnyH_take (i := 10) (by rfl) (by kernel_rfl) (by kernel_rfl) (by kernel_rfl) (by intro _ _ _ h; exact h) (Or.inr ⟨by kernel_rfl, rfl⟩) (by assumption) ?rest39
  change wpAnyH _ _ _ _ _ _ _ (Act.put _ (some 16) _) _
  try simp only [Act.put, List.setIfInBounds_toArray, List.set_cons_zero, List.set_cons_succ]
  refine wpAnyH_take (i := 11) (by rfl) (by kernel_rfl) (by kernel_rfl) (by kernel_rfl) (by intro _ _ _ h; exact h) (Or.inr ⟨by kernel_rfl, rfl⟩) (by assumption) ?rest40
  change wpAnyH _ _ _ _ _ _ _ (Act.put _ (some 17) _) _
  try simp only [Act.put, List.setIfInBounds_toArray, List.set_cons_zero, List.set_cons_succ]
  refine wpAnyH_take (i := 12) (by rfl) (by kernel_rfl) (by kernel_rfl) (by kernel_rfl) (by intro _ _ _ h; exact h) (Or.inr ⟨by kernel_rfl, rfl⟩) (by assumption) ?rest41
  change wpAnyH _ _ _ _ _ _ _ (Act.put _ (some 18) _) _
  try simp only [Act.put, List.setIfInBounds_toArray, List.set_cons_zero, List.set_cons_succ]
  refine wpAnyH_take (i := 13) (by rfl) (by kernel_rfl) (by kernel_rfl) (by kernel_rfl) (by intro _ _ _ h; exact h) (Or.inr ⟨by kernel_rfl, rfl⟩) (by assumption) ?rest42
  change wpAnyH _ _ _ _ _ _ _ (Act.put _ (some 19) _) _
  try simp only [Act.put, List.setIfInBounds_toArray, List.set_cons_zero, List.set_cons_succ]
  refine wpAnyH_take (i := 14) (by rfl) (by kernel_rfl) (by kernel_rfl) (by kernel_rfl) (by intro _ _ _ h; exact h) (Or.inr ⟨by kernel_rfl, rfl⟩) (by assumption) ?rest43
  change wpAnyH _ _ _ _ _ _ _ (Act.put _ (some 20) _) _
  try simp only [Act.put, List.setIfInBounds_toArray, List.set_cons_zero, List.set_cons_succ]
  refine wpAnyH_take (i := 15) (by rfl) (by kernel_rfl) (by kernel_rfl) (by kernel_rfl) (by intro _ _ _ h; exact h) (Or.inr ⟨by kernel_rfl, rfl⟩) (by assumption) ?rest44
  change wpAnyH _ _ _ _ _ _ _ (Act.put _ (some 21) _) _
  try simp only [Act.put, List.setIfInBounds_toArray, List.set_cons_zero, List.set_cons_succ]
  refine wpAnyH_take (i := 16) (by rfl) (by kernel_rfl) (by kernel_rfl) (by kernel_rfl) (by intro _ _ _ h; exact h) (Or.inr ⟨by kernel_rfl, rfl⟩) (by assumption) ?rest45
  change wpAnyH _ _ _ _ _ _ _ (Act.put _ (some 22) _) _
  try simp only [Act.put, List.setIfInBounds_toArray, List.set_cons_zero, List.set_cons_succ]
  refine tq 17 23 ?_
  refine wpAnyH_done (by kernel_rfl) ?_ _
  refine NoPanic.normal ?_
  have c2 := keep1 hHeld b2
  have z2 : World.frozen? xs ⟨g, 2, none⟩ = false := (HB.out.keeps hHeld).frozen 2
  have HBF := Lib.hid (show Blk (xs.setCell ⟨g, 2, none⟩ (.bool true)) g 63 #[.slice p l.length cap, .int .i64 (a : Int), .bool true] from (HB.out.keeps hHeld).set_ 2 _)
  have HMF := Lib.hid ((Mods.of_keeps (S := (· = g)) hHeld).setCell (p := ⟨g, 2, none⟩) (fun _ => rfl) (.bool true))
  have HRF := Lib.hid (show RrAt (xs.setCell ⟨g, 2, none⟩ (.bool true)) g base (.slice p l.length cap) l none from ⟨a, true, HBF.out, by simp, by simp, hal, hll, HP.out.modsT HMF.out hty.out⟩)
  clear hHeld b0 b1 b2
  go_wp2_with fail
  go_ret
  exact ⟨by rw [HT2.out]; rfl, by rw [HT2.out]; exact HRF.out, HM.out.trans HMF.out (fun x hx _ => hx)⟩
 | false =>
 have hσ : σ1 = some a := by
  cases σ1 with
  | none => have := HBAD.out.1.2 rfl; simp at this
  | some x => rw [HBAD.out.2 x rfl]
 subst hσ
 by_cases hfit : a + n ≤ l.length
 ·have HT2 := Lib.hid (show tR l mT σ = ((l.drop a).take n, some (a + n)) from HT.out.trans (if_pos ⟨by unfold mT; omega, hfit⟩))
  obtain ⟨s, hs⟩ : ∃ s, s = a + n := ⟨_, rfl⟩
  rw [← hs] at HT2 hfit
  have e1 : decide ((l.length : Int) - (a : Int) < (n : Int)) = false := decide_eq_false (by omega)
  have hw : IntKind.i64.wrap ((a : Int) + (n : Int)) = (s : Int) := by rw [show ((a : Int) + (n : Int)) = (s : Int) by omega]; exact IntWalk.i64_in _ (by omega)
  have hw2 : IntKind.i64.wrap ((s : Int) - (n : Int)) = (a : Int) := by rw [show ((s : Int) - (n : Int)) = (a : Int) by omega]; exact IntWalk.i64_in _ (by omega)
  have hcut : ∀ w', (Instr.slice 22 (.slice p l.length cap) (some (.int .i64 (a : Int))) (some (.int .i64 (s : Int))) none).run Try.prog w' = .ok (cutv p a s cap) w' := fun w' =>
   run_cut_lh w' Try.underlying22 Oct.s5 p l.length cap a s (by omega) (by
    obtain ⟨p', c', hv, h1, -⟩ := HP.out.form
    simp only [Value.slice.injEq, List.length_map] at hv
    rw [List.length_map] at h1
    omega)
  obtain ⟨qc, nc, cc, hqc⟩ : ∃ q n' c', cutv p a s cap = .slice q n' c' := ⟨_, _, _, rfl⟩
  have HCUT : Hid (∀ w', Row w' (.slice p l.length cap) (l.map u8v) → Row w' (.slice qc nc cc) (((l.drop a).take n).map u8v)) := Lib.hid (fun w' h => by
   have := h.cut (lo := a) (hi := s) (by omega) (by rw [List.length_map]; exact hfit)
   rw [hqc, show s - a = n by omega] at this
   simpa [List.map_take, List.map_drop] using this)
  rw [hqc] at hcut
  clear hqc hs
  go_wp2_with fail
  refine wp_region_noPanic ?_
  refine wp_region_held_drew (S := fun w' => Keeps w1 w') (by kernel_rfl) (((Keeps.refl w1).drew)) (fun _ => ?_)
  have hHeld : Keeps w1 (w1).drew := ((Keeps.refl w1).drew)
  generalize World.drew w1 = xs at *
  refine tq 0 6 ?_
  refine tq 1 7 ?_
  refine tq 2 8 ?_
  refine tq 3 9 ?_ (hy := fun w' hSw => by
   have hSw : Keeps w1 w' := hSw
   have hx := keep1 hSw b2
   clear hSw
   go_simp
   try with_reducible rfl)
  refine tq 4 10 ?_
  refine tq 5 11 ?_
  refine tq 6 12 ?_
  refine tq 7 13 ?_
  refine tq 8 14 ?_
  refine tq 9 15 ?_ (hy := fun w' hSw => by
   have hSw : Keeps w1 w' := hSw
   have hx := keep1 hSw b0
   clear hSw
   go_simp
   try with_reducible rfl)
  refine tq 10 16 ?_
  refine tq 11 17 ?_
  refine tq 12 18 ?_
  refine tq 13 19 ?_
  refine tq 14 20 ?_ (hy := fun w' hSw => by
   have hSw : Keeps w1 w' := hSw
   have hx := keep1 hSw b1
   clear hSw
   go_simp
   try with_reducible rfl)
  refine tq 15 21 ?_
  refine tq 16 22 ?_
  refine tq 17 23 ?_
  refine wpAnyH_done (by kernel_rfl) ?_ _
  refine NoPanic.normal ?_
  have c1 := keep1 hHeld b1
  have z1 : World.frozen? xs ⟨g, 1, none⟩ = false := (HB.out.keeps hHeld).frozen 1
  have HBF := Lib.hid (show Blk (xs.setCell ⟨g, 1, none⟩ (.int .i64 (s : Int))) g 63 #[.slice p l.length cap, .int .i64 (s : Int), .bool false] from (HB.out.keeps hHeld).set_ 1 _)
  have HMF := Lib.hid ((Mods.of_keeps (S := (· = g)) hHeld).setCell (p := ⟨g, 1, none⟩) (fun _ => rfl) (.int .i64 (s : Int)))
  have HRF := Lib.hid (show RrAt (xs.setCell ⟨g, 1, none⟩ (.int .i64 (s : Int))) g base (.slice p l.length cap) l (some s) from ⟨s, false, HBF.out, by simp, by simp, hfit, hll, HP.out.modsT HMF.out hty.out⟩)
  have HPF := Lib.hid (HP.out.modsT HMF.out hty.out)
  clear hHeld b0 b1 b2
  go_wp2_with fail
  generalize World.setCell xs ⟨g, 1, none⟩ (.int .i64 (s : Int)) = y at *
  have d0 : y.cell? ⟨g, 0, none⟩ = some (.slice p l.length cap) := by rw [HBF.out.cell]; rfl
  have d1 : y.cell? ⟨g, 1, none⟩ = some (.int .i64 (s : Int)) := by rw [HBF.out.cell]; rfl
  refine wp_region_noPanic ?_
  refine wp_region_held_drew (S := fun w' => Keeps y w') (by kernel_rfl) (((Keeps.refl y).drew)) (fun _ => ?_)
  have hHeld : Keeps y (y).drew := ((Keeps.refl y).drew)
  generalize World.drew y = xs at *
  refine tq 0 36 ?_
  refine tq 1 37 ?_
  refine tq 2 38 ?_
  refine tq 3 39 ?_ (hy := fun w' hSw => by
   have hSw : Keeps y w' := hSw
   have hx := keep1 hSw d0
   clear hSw
   go_simp
   try with_reducible rfl)
  refine tq 4 40 ?_
  refine tq 5 41 ?_
  refine tq 6 42 ?_
  refine tq 7 43 ?_ (hy := fun w' hSw => by
   have hSw : Keeps y w' := hSw
   have hx := keep1 hSw d1
   clear hSw
   go_simp
   try with_reducible rfl)
  refine tq 8 44 ?_
  refine tq 9 45 ?_
  refine tq 10 46 ?_
  refine tq 11 47 ?_
  refine tq 12 48 ?_
  refine tq 13 49 ?_ (hy := fun w' hSw => by
   have hSw : Keeps y w' := hSw
   have hx := keep1 hSw d1
   clear hSw
   go_simp
   try with_reducible rfl)
  refine tq 14 50 ?_
  refine tq 15 51 ?_ (hy := fun w' hSw => by
   have hSw : Keeps y w' := hSw
   have hc := str_at5 (HCUT.out _ (HPF.out.keeps hSw).row)
   clear hSw
   go_simp
   try with_reducible rfl)
  refine tq 16 2 ?_
  refine wpAnyH_done (by kernel_rfl) ?_ _
  refine NoPanic.normal ?_
  have HRG := Lib.hid (HRF.out.kept hHeld)
  have HMG := Lib.hid (HMF.out.then hHeld)
  clear hHeld
  go_wp2_with fail
  go_ret
  exact ⟨by rw [HT2.out]; rfl, by rw [HT2.out]; exact HRG.out, HM.out.trans HMG.out (fun x hx _ => hx)⟩
 ·have HT2 := Lib.hid (show tR l mT σ = ([], none) from HT.out.trans (if_neg (fun h => hfit h.2)))
  have e1 : decide ((l.length : Int) - (a : Int) < (n : Int)) = true := decide_eq_true (by omega)
  go_wp2_with fail
  refine wp_region_noPanic ?_
  refine wp_region_held_drew (S := fun w' => Keeps w1 w') (by kernel_rfl) (((Keeps.refl w1).drew)) (fun _ => ?_)
  have hHeld : Keeps w1 (w1).drew := ((Keeps.refl w1).drew)
  generalize World.drew w1 = xs at *
  refine tq 0 6 ?_
  refine tq 1 7 ?_
  refine tq 2 8 ?_
  refine tq 3 9 ?_ (hy := fun w' hSw => by
   have hSw : Keeps w1 w' := hSw
   have hx := keep1 hSw b2
   clear hSw
   go_simp
   try with_reducible rfl)
  refine tq 4 10 ?_
  refine tq 5 11 ?_
  refine tq 6 12 ?_
  refine tq 7 13 ?_
  refine tq 8 14 ?_
  refine tq 9 15 ?_ (hy := fun w' hSw => by
   have hSw : Keeps w1 w' := hSw
   have hx := keep1 hSw b0
   clear hSw
   go_simp
   try with_reducible rfl)
  refine tq 10 16 ?_
  refine tq 11 17 ?_
  refine tq 12 18 ?_
  refine tq 13 19 ?_
  refine tq 14 20 ?_ (hy := fun w' hSw => by
   have hSw : Keeps w1 w' := hSw
   have hx := keep1 hSw b1
   clear hSw
   go_simp
   try with_reducible rfl)
  refine tq 15 21 ?_
  refine tq 16 22 ?_
  refine tq 17 23 ?_
  refine wpAnyH_done (by kernel_rfl) ?_ _
  refine NoPanic.normal ?_
  have c2 := keep1 hHeld b2
  have z2 : World.frozen? xs ⟨g, 2, none⟩ = false := (HB.out.keeps hHeld).frozen 2
  have HBF := Lib.hid (show Blk (xs.setCell ⟨g, 2, none⟩ (.bool true)) g 63 #[.slice p l.length cap, .int .i64 (a : Int), .bool true] from (HB.out.keeps hHeld).set_ 2 _)
  have HMF := Lib.hid ((Mods.of_keeps (S := (· = g)) hHeld).setCell (p := ⟨g, 2, none⟩) (fun _ => rfl) (.bool true))
  have HRF := Lib.hid (show RrAt (xs.setCell ⟨g, 2, none⟩ (.bool true)) g base (.slice p l.length cap) l none from ⟨a, true, HBF.out, by simp, by simp, hal, hll, HP.out.modsT HMF.out hty.out⟩)
  clear hHeld b0 b1 b2
  go_wp2_with fail
  go_ret
  exact ⟨by rw [HT2.out]; rfl, by rw [HT2.out]; exact HRF.out, HM.out.trans HMF.out (fun x hx _ => hx)⟩
end Env
end Go.Proofs.Ytkbibhlfehamgaa

/- envel's reading: the document's reading and the program's are one. -/
namespace Go.Proofs.Ytkbibhlfehamgaa
open Go.RowKit
namespace Env
open Adr (Str goodB)
open Frm (Fr1)
theorem tR_some {l : Str} {σ : Option Nat} {b : Nat} (h : (tR l 100 σ).2 = some b) : tR l mT σ = tR l 100 σ := by
 unfold tR at h ⊢
 generalize uR l 4 σ = u at *
 obtain ⟨n, s⟩ := u
 cases s with
 | none => rfl
 | some a =>
  simp only at h ⊢
  by_cases hc : n ≤ 100 ∧ a + n ≤ l.length
  ·rw [if_pos hc, if_pos ⟨by unfold mT; omega, hc.2⟩]
  ·rw [if_neg hc] at h
   simp at h
theorem tR_short {l : Str} {σ : Option Nat} (h : (tR l mT σ).1.length ≤ 100) : tR l 100 σ = tR l mT σ := by
 unfold tR at h ⊢
 generalize uR l 4 σ = u at *
 obtain ⟨n, s⟩ := u
 cases s with
 | none => rfl
 | some a =>
  simp only at h ⊢
  by_cases hc : n ≤ mT ∧ a + n ≤ l.length
  ·rw [if_pos hc] at h ⊢
   simp only [List.length_take, List.length_drop] at h
   rw [if_pos ⟨by omega, hc.2⟩]
  ·rw [if_neg hc, if_neg (fun h => hc ⟨by unfold mT; omega, h.2⟩)]
theorem uR_in {l : Str} {k : Nat} {σ : Option Nat} {b : Nat} (h : (uR l k σ).2 = some b) : ∃ a, σ = some a := by
 cases σ with
 | none => simp [uR] at h
 | some a => exact ⟨a, rfl⟩
theorem tR_in {l : Str} {m : Nat} {σ : Option Nat} {b : Nat} (h : (tR l m σ).2 = some b) : ∃ a, σ = some a := by
 cases σ with
 | none => simp [tR, uR] at h
 | some a => exact ⟨a, rfl⟩
theorem tgR_some {l : Str} {σ : Option Nat} {b : Nat} (h : (tgR l 100 σ).2 = some b) : tgR l mT σ = tgR l 100 σ ∧ ∃ a, σ = some a := by
 unfold tgR at h ⊢
 simp only at h
 obtain ⟨c, hc⟩ := tR_in h
 have h1 := tR_some hc
 have h2 := tR_some h
 obtain ⟨d, hd⟩ := tR_in hc
 rw [h1, h2]
 exact ⟨rfl, uR_in hd⟩
theorem tgR_short {l : Str} {σ : Option Nat} (h1 : (tgR l mT σ).1.l.length ≤ 100) (h2 : (tgR l mT σ).1.d.length ≤ 100) : tgR l 100 σ = tgR l mT σ := by
 unfold tgR at *
 simp only at h1 h2
 have e1 := tR_short h1
 have e2 := tR_short h2
 rw [e1, e2]
theorem tgsR_some {l : Str} : ∀ {n : Nat} {σ : Option Nat} {b : Nat}, (tgsR l 100 n σ).2 = some b → tgsR l mT n σ = tgsR l 100 n σ
 | 0, _, _, _ => rfl
 | n + 1, σ, b, h => by
  rw [tgsR] at h
  simp only at h
  have h1 := tgsR_some h
  have h2 : ∃ c, (tgR l 100 σ).2 = some c := by
   cases e : (tgR l 100 σ).2 with
   | none => rw [e, tgsR_none] at h; simp at h
   | some c => exact ⟨c, rfl⟩
  obtain ⟨c, hc⟩ := h2
  rw [tgsR, tgsR, (tgR_some hc).1, h1]
theorem tgsR_short {l : Str} : ∀ {n : Nat} {σ : Option Nat}, (∀ t ∈ (tgsR l mT n σ).1, t.l.length ≤ 100 ∧ t.d.length ≤ 100) → tgsR l 100 n σ = tgsR l mT n σ
 | 0, _, _ => rfl
 | n + 1, σ, h => by
  rw [tgsR] at h
  simp only [List.mem_cons, forall_eq_or_imp] at h
  have h1 := tgR_short h.1.1 h.1.2
  have h2 := tgsR_short h.2
  rw [tgsR, tgsR, h1, h2]
theorem headR_some {l : Str} {b : Nat} (h : (headR l 100).2 = some b) : headR l mT = headR l 100 := by
 unfold headR at h ⊢
 simp only at h ⊢
 obtain ⟨c, hc⟩ := uR_in h
 have h1 := tR_some hc
 obtain ⟨d, hd⟩ := tR_in hc
 have h2 := tR_some hd
 rw [h2, h1]
theorem headR_short {l : Str} (h1 : (headR l mT).1.2.2.1.length ≤ 100) (h2 : (headR l mT).1.2.2.2.1.length ≤ 100) : headR l 100 = headR l mT := by
 unfold headR at *
 simp only at h1 h2 ⊢
 have e1 := tR_short h1
 have e2 := tR_short h2
 rw [e1, e2]
theorem cap_bad {c d v : Nat} {a n : Int} (hc : n < c) (hd : n < d) : inB (capI c v) a n = inB (capI d v) a n := by
 unfold inB capI
 split <;> split
 ·rfl
 ·rw [decide_eq_false (show ¬ (v : Int) ≤ n by omega), decide_eq_false (show ¬ (d : Int) ≤ n by omega)]; simp
 ·rw [decide_eq_false (show ¬ (v : Int) ≤ n by omega), decide_eq_false (show ¬ (c : Int) ≤ n by omega)]; simp
 ·rw [decide_eq_false (show ¬ (c : Int) ≤ n by omega), decide_eq_false (show ¬ (d : Int) ≤ n by omega)]; simp
theorem cap_in {c d v : Nat} {a n : Int} (hc : n < c) (hd : n < d) (h : inB (capI c v) a n = true) : capI c v = capI d v := by
 unfold inB capI at *
 simp only [Bool.and_eq_true, decide_eq_true_eq] at h
 by_cases hv : v ≤ c
 ·rw [if_pos hv] at h ⊢
  rw [if_pos (by omega)]
 ·rw [if_neg hv] at h
  omega
/-- which job a payload is: both readings answer alike -/
theorem env_two (l : Str) : envOk (envR mT m63 m63 l) l = envOk (envR 100 capId capT l) l ∧ (envOk (envR 100 capId capT l) l = true → (envR mT m63 m63 l).1 = (envR 100 capId capT l).1) := by
 have key : ∀ (h t : _), h = headR l 100 → t = tgsR l 100 h.1.2.2.2.2 h.2 → headR l mT = h → tgsR l mT h.1.2.2.2.2 h.2 = t →
   envOk (envR mT m63 m63 l) l = envOk (envR 100 capId capT l) l ∧ (envOk (envR 100 capId capT l) l = true → (envR mT m63 m63 l).1 = (envR 100 capId capT l).1) := by
  intro h t e1 e2 e3 e4
  unfold envR
  rw [e3, ← e1]
  simp only
  rw [e4, ← e2]
  unfold envOk envB
  simp only
  rw [cap_bad (c := m63) (d := capId) (n := 1099511627776) (by unfold m63; omega) (by unfold capId; omega), cap_bad (c := m63) (d := capT) (n := maxT) (by unfold m63 maxT; omega) (by unfold capT maxT; omega)]
  refine ⟨rfl, fun hh => ?_⟩
  simp only [Bool.and_eq_true] at hh
  rw [cap_in (c := capId) (d := m63) (by unfold capId; omega) (by unfold m63; omega) hh.2.1.1.1.1, cap_in (c := capT) (d := m63) (by unfold capT maxT; omega) (by unfold m63 maxT; omega) hh.2.1.1.1.2]
 cases hA : envOk (envR 100 capId capT l) l with
 | true =>
  have h1 : (envR 100 capId capT l).2 = some l.length := by
   unfold envOk at hA
   simp only [Bool.and_eq_true, decide_eq_true_eq] at hA
   exact hA.1
  have h2 : (tgsR l 100 (headR l 100).1.2.2.2.2 (headR l 100).2).2 = some l.length := h1
  have h3 : ∃ c, (headR l 100).2 = some c := by
   cases e : (headR l 100).2 with
   | none => rw [e, tgsR_none] at h2; simp at h2
   | some c => exact ⟨c, rfl⟩
  obtain ⟨c, hc⟩ := h3
  have := key _ _ rfl rfl (headR_some hc) (tgsR_some h2)
  rw [hA] at this
  exact this
 | false =>
  refine ⟨?_, by simp⟩
  cases hB : envOk (envR mT m63 m63 l) l with
  | false => rfl
  | true =>
   have h1 : envB (envR mT m63 m63 l).1 = true := by
    unfold envOk at hB
    simp only [Bool.and_eq_true] at hB
    exact hB.2
   obtain ⟨n, m, hn⟩ := envB_nat h1
   have h2 : (headR l mT).1.2.2.1.length ≤ 64 ∧ (headR l mT).1.2.2.2.1.length ≤ 64 := hn.fr
   have h3 : ∀ t ∈ (tgsR l mT (headR l mT).1.2.2.2.2 (headR l mT).2).1, t.l.length ≤ 100 ∧ t.d.length ≤ 100 := fun t ht => by
    have := (hn.all t ht).2
    omega
   have e1 := headR_short (l := l) (by omega) (by omega)
   have e2 := tgsR_short h3
   have := key _ _ rfl rfl e1.symm (by rw [e1]; exact e2.symm)
   rw [hA, hB] at this
   exact this.1
theorem st_two (l : Str) (n : Nat) : stOk (stR m63 l) l n = stOk (stR capT l) l n ∧ (stOk (stR capT l) l n = true → (stR m63 l).1 = (stR capT l).1) := by
 unfold stOk stR
 simp only
 unfold goodStB
 simp only
 rw [cap_bad (c := m63) (d := capT) (n := maxT) (by unfold m63 maxT; omega) (by unfold capT maxT; omega)]
 refine ⟨rfl, fun h => ?_⟩
 simp only [Bool.and_eq_true] at h
 rw [cap_in (c := capT) (d := m63) (by unfold capT maxT; omega) (by unfold m63 maxT; omega) h.2.1.2]
/-- the document's steps -/
def stepsR2 (n : Nat) : List Fr1 → List StP → List StP × Int
 | [], st => (st, 0)
 | f :: r, st => if f.kind = 18 ∧ stOk (stR m63 f.pay) f.pay n = true then ((stepsR2 n r (st.set (stR m63 f.pay).1.1 (stR m63 f.pay).1.2)).1, f.len + (stepsR2 n r (st.set (stR m63 f.pay).1.1 (stR m63 f.pay).1.2)).2) else (st, 0)
theorem steps_two (n : Nat) : ∀ (fs : List Fr1) (st : List StP), stepsR2 n fs st = stepsR n fs st
 | [], _ => rfl
 | f :: r, st => by
  obtain ⟨h1, h2⟩ := st_two f.pay n
  rw [stepsR2, stepsR, h1]
  by_cases h : f.kind = 18 ∧ stOk (stR capT f.pay) f.pay n = true
  ·rw [if_pos h, if_pos h, h2 h.2, steps_two n r]
  ·rw [if_neg h, if_neg h]
end Env
end Go.Proofs.Ytkbibhlfehamgaa
