/- Several texts in one: UsRefSet, UsRefAPl, UsRefBy. -/
import Derived.Test.YtklbemkafdccgaaGreatK47
import Derived.Test.YtklbemkafdccgaaGreatK24
import Derived.Test.YtklbemkafdccgaaGreatK45
/- ref13: SetLimit. (Printed by gen_usrset.py.) -/
namespace Go.Proofs.YtklbemkafdccgaaGreat
open Go.RowKit
namespace Usr
open Adr (Str)
open Mp Go.Maps
open Frm (ownsRow_keeps ownsRow_mods ownsRow_ne ownsRow_form ownsRow_base rowS_lit)
def setF (name : Str) (b c : Int) (u : UsrP) : UsrP := if u.name = name then { u with lb := b, lc := c } else u
theorem setL_not {t : TabP} {name : Str} {b c : Int} (h : name ∉ namesU t) : setL t name b c = (t, 0, 7) := by unfold setL; rw [if_pos h]
theorem setL_do {t : TabP} {name : Str} {b c : Int} (h : name ∈ namesU t) (h2 : limB b c = true) : setL t name b c = ({ t with us := t.us.map (setF name b c) }, 0, 0) := by
 unfold setL
 rw [if_neg (by simpa using h), if_neg (by simp [h2])]
 rfl
set_option maxRecDepth 100000 in
set_option maxHeartbeats 4000000 in
theorem rSetLimit_any (w : World) (uv av : Value) (t : TabP) (L : List (AlP × Value)) (h : RT w uv av t L) (hR : Right t) (name : Str) (b c : Int) : Calls Tryz.prog 39 #[rtV uv av t, .string (bstr name), .agg #[.int .i64 b, .int .i64 c]] w (RGot w (setL t name b c)) := by
 have HUL := Lib.hid hR.ul
 have HNU := Lib.hid hR.nu
 obtain ⟨pu, cu, pa, ca, rfl, rfl, -, -⟩ := h.forms
 have HR := Lib.hid h
 have CG := Lib.hid (fun w' => Quota.rGood_any b c w')
 rw [limB_eq] at CG
 have CU := Lib.hid (fun (w' : World) (k : Keeps w w') => rUser_any w' _ _ t L (h.keeps k).tab (by have := HUL.out; omega) name)
 have XN := Lib.hid (@setL_not t name b c)
 have XL := Lib.hid (@setL_lim t name b c)
 have XO := Lib.hid (@setL_do t name b c)
 obtain ⟨lb, hlb⟩ : ∃ z, limB b c = z := ⟨_, rfl⟩
 rw [hlb] at CG XL XO
 clear h hR hlb
 unfold rtV at CU ⊢
 go_enter Tryz.func39, Tryz.ntmps39
 go_upto_region 1 with fail
 generalize hW : World.alloc (World.alloc (World.alloc w _) _) _ = w1
 have HK := Lib.hid (show Keeps w w1 from by rw [← hW]; exact (((Keeps.refl _).alloc _).alloc _).alloc _)
 have HB := Lib.hid (show Blk w1 w.heap.size 32 #[.string (bstr t.dom), .int .i64 t.next, .slice pu t.us.length cu, .slice pa L.length ca] from by rw [← hW]; exact (Blk.new _ _ _ rfl).keeps (((Keeps.refl _).alloc _).alloc _))
 have HL := Lib.hid (show Blk w1 (w.heap.size + 1) 36 #[.int .i64 b, .int .i64 c] from by rw [← hW]; exact (Blk.new _ _ _ (Frm.alloc_size _ _).symm).keeps ((Keeps.refl _).alloc _))
 have HG := Lib.hid (show Blk w1 (w.heap.size + 1 + 1) 86 #[.string ⟨#[]⟩, .int .i64 0, .slice none 0 0, .slice none 0 0, .int .i64 0, .int .i64 0] from by rw [← hW]; exact Blk.new _ _ _ (by rw [Frm.alloc_size, Frm.alloc_size]))
 clear hW
 obtain ⟨q, hq⟩ : ∃ z, w.heap.size = z := ⟨_, rfl⟩
 have HQ := Lib.hid hq
 rw [hq] at HB HG HL ⊢
 clear hq
 go_wp2_with (refine wpList_ld rfl rtM HB.out _ rfl rfl ?_)
 refine (CU.out _ HK.out).mono ?_
 rintro e w3 ⟨rfl, hk⟩
 have HK := Lib.hid (HK.out.trans hk)
 have HB := Lib.hid (HB.out.keeps hk)
 have HL := Lib.hid (HL.out.keeps hk)
 have HG := Lib.hid (HG.out.keeps hk)
 clear hk CU
 rcases posL_cases (namesU t) name with ⟨hu, hp⟩ | ⟨i, hi, hni, hp⟩
 ·rw [hp]
  have HNI := Lib.hid hu
  clear hu hp
  have HX := Lib.hid (XN.out HNI.out)
  generalize setL t name b c = r at *
  go_wp2_with (first
   |refine wpList_ld rfl rtM HB.out _ rfl rfl ?_
   |(refine wpList_st (ds := #[.string (bstr t.dom), .int .i64 t.next, .slice pu t.us.length cu, .slice pa L.length ca, .int .i64 0, .int .i64 7]) rfl gotM HG.out rfl (by simp [Value.oneCell']) _ _ rfl rfl rfl rfl ?_; intro w9 hB9 hM9; have HLd := Lib.hid (ld_run (P := Tryz.prog) gotM hB9); have HM9 := Lib.hid hM9; clear hB9 hM9))
  refine bodyPost_ret (v := .agg #[.string (bstr t.dom), .int .i64 t.next, .slice pu t.us.length cu, .slice pa L.length ca, .int .i64 0, .int .i64 7]) (by simp [results, Tryz.results39, Sem.run_bind, Sem.run_pure, Result.andThen_ok, Act.put, asAddr, HLd.out]) rfl ?_
  have hk9 : Keeps w w9 := HM9.out.keeps HK.out (fun x hx => by rw [hx, ← HQ.out]; omega)
  rw [HX.out]
  exact ⟨_, _, L, rfl, HR.out.keeps hk9, hk9⟩
 have HME := Lib.hid (show name ∈ namesU t from hni ▸ List.getElem_mem hi)
 have HIX := Lib.hid (show i < t.us.length ∧ ∀ j (hj : j < t.us.length), (t.us[j].name = name ↔ j = i) from by
  have hi' : i < t.us.length := by simpa [namesU] using hi
  have hn' : t.us[i].name = name := by rw [← hni]; simp [namesU]
  refine ⟨hi', fun j hj => ⟨fun e => ?_, fun e => by subst e; exact hn'⟩⟩
  have h1 : (namesU t)[j]'(by simpa [namesU] using hj) = (namesU t)[i] := by rw [hni]; simpa [namesU] using e
  have hpw := List.pairwise_iff_getElem.1 HNU.out
  rcases Nat.lt_trichotomy j i with hl | hl | hl
  ·exact absurd h1 (hpw j i _ _ hl)
  ·exact hl
  ·exact absurd h1.symm (hpw i j _ _ hl))
 rw [hp]
 clear hp hni hi
 have hge : decide ((i : Int) < 0) = false := decide_eq_false (by omega)
 go_wp2_with (refine wpList_ld rfl limM HL.out _ rfl rfl ?_)
 refine (CG.out _).mono ?_
 rintro e w4 ⟨rfl, hk⟩
 have HK := Lib.hid (HK.out.trans hk)
 have HB := Lib.hid (HB.out.keeps hk)
 have HL := Lib.hid (HL.out.keeps hk)
 have HG := Lib.hid (HG.out.keeps hk)
 clear hk CG hge
 cases lb with
 |false =>
  have HX := Lib.hid (XL.out (decide_eq_true HME.out) (by trivial))
  generalize setL t name b c = r at *
  go_wp2_with (first
   |refine wpList_ld rfl rtM HB.out _ rfl rfl ?_
   |(refine wpList_st (ds := #[.string (bstr t.dom), .int .i64 t.next, .slice pu t.us.length cu, .slice pa L.length ca, .int .i64 0, .int .i64 1]) rfl gotM HG.out rfl (by simp [Value.oneCell']) _ _ rfl rfl rfl rfl ?_; intro w9 hB9 hM9; have HLd := Lib.hid (ld_run (P := Tryz.prog) gotM hB9); have HM9 := Lib.hid hM9; clear hB9 hM9))
  refine bodyPost_ret (v := .agg #[.string (bstr t.dom), .int .i64 t.next, .slice pu t.us.length cu, .slice pa L.length ca, .int .i64 0, .int .i64 1]) (by simp [results, Tryz.results39, Sem.run_bind, Sem.run_pure, Result.andThen_ok, Act.put, asAddr, HLd.out]) rfl ?_
  have hk9 : Keeps w w9 := HM9.out.keeps HK.out (fun x hx => by rw [hx, ← HQ.out]; omega)
  rw [HX.out]
  exact ⟨_, _, L, rfl, HR.out.keeps hk9, hk9⟩
 |true =>
 have HX := Lib.hid (XO.out HME.out (by trivial))
 generalize setL t name b c = r at *
 obtain ⟨w2, rfl⟩ : ∃ z, z = w4 := ⟨_, rfl⟩
 have HT2 := Lib.hid (HR.out.keeps HK.out)
 have HUA := Lib.hid (show ∀ wx, Keeps w2 wx → ∀ j (hj : j < t.us.length), ∃ bs o, pu = some ⟨bs, o, none⟩ ∧ wx.rangeAt bs (o + j * 4) [.int .i64 t.us[j].n, .string (bstr t.us[j].name), .int .i64 t.us[j].lb, .int .i64 t.us[j].lc] from fun wx k j hj => by
  rcases (HT2.out.keeps k).tab.us.2 with ⟨a0, cap, hv, h0, -⟩ | ⟨b', off, cap, hv, -, -, hc⟩
  ·omega
  ·simp only [Value.slice.injEq] at hv
   refine ⟨b', off, hv.1, fun m v hm => ?_⟩
   have hm4 : m < 4 := by have := (List.getElem?_eq_some_iff.1 hm).1; simpa using this
   have := hc (j * 4 + m) v (by rw [us_at hj hm4]; exact hm)
   rwa [← Nat.add_assoc] at this)
 clear XN XL XO
 go_upto_region 8 with fail
 go_loopw [8, 9] (fun ov iv wr => ∃ (j : Nat) (p : Option Addr) (co : Nat), ov = .slice p j co ∧ iv = .int .i64 (j : Int) ∧ Hid (j ≤ t.us.length ∧ wr.ownsRow w2.heap.size 42 4 (.slice p j co) j (((t.us.map (setF name b c)).take j).flatMap usC) ∧ Keeps w2 wr)) (fun _ iv _ => t.us.length - (RowKit.intOf iv).toNat)
 case atStart => exact ⟨0, none, 0, rfl, rfl, Lib.hid ⟨Nat.zero_le _, World.ownsRow_nil _ _ _ _, Keeps.refl _⟩⟩
 case round =>
  obtain ⟨j, p, co, rfl, rfl, HH⟩ := hrel
  obtain ⟨wz, rfl⟩ : ∃ z : World, z = wr := ⟨_, rfl⟩
  have q2 : wz.cell? ⟨q, 2, none⟩ = some (.slice pu t.us.length cu) := by rw [(HB.out.keeps HH.out.2.2).cell]; rfl
  have hw : IntKind.i64.wrap ((j : Int) + 1) = (j : Int) + 1 := IntWalk.i64_in _ (by have := HUL.out; have := HH.out.1; omega)
  by_cases hlt : j < t.us.length
  ·have hd : decide ((j : Int) < (t.us.length : Int)) = true := decide_eq_true (by omega)
   have hj16 : j ≤ 16 := by have := HUL.out; omega
   obtain ⟨bs, o, hpu, hrg⟩ := HUA.out wz HH.out.2.2 j hlt
   subst hpu
   have HRG := Lib.hid hrg
   have HFE0 := Lib.hid (show setF name b c t.us[j] = if j = i then ⟨t.us[j].n, t.us[j].name, b, c⟩ else ⟨t.us[j].n, t.us[j].name, t.us[j].lb, t.us[j].lc⟩ from by
    unfold setF
    by_cases e : j = i
    ·rw [if_pos ((HIX.out.2 j hlt).2 e), if_pos e]
    ·rw [if_neg (fun h => e ((HIX.out.2 j hlt).1 h)), if_neg e])
   have HNN := Lib.hid (rfl : t.us[j].n = t.us[j].n)
   clear hrg
   obtain ⟨un, hun⟩ : ∃ z, t.us[j].n = z := ⟨_, rfl⟩
   obtain ⟨nm, hnm⟩ : ∃ z, t.us[j].name = z := ⟨_, rfl⟩
   obtain ⟨ub, hub⟩ : ∃ z, t.us[j].lb = z := ⟨_, rfl⟩
   obtain ⟨uc, huc⟩ : ∃ z, t.us[j].lc = z := ⟨_, rfl⟩
   rw [hun, hnm, hub, huc] at HRG HFE0
   clear hun hnm hub huc
   go_upto_region 11 with (refine wpList_ldR rfl usrM HRG.out _ rfl rfl ?_)
   generalize hW : World.alloc wz _ = wa
   have HD := Lib.hid (show Blk wa wz.heap.size 42 #[.int .i64 un, .string (bstr nm), .int .i64 ub, .int .i64 uc] from by rw [← hW]; exact Blk.new _ _ _ rfl)
   have HKa := Lib.hid (show Keeps w2 wa from by rw [← hW]; exact HH.out.2.2.alloc _)
   have HOa := Lib.hid (show wa.ownsRow w2.heap.size 42 4 (.slice p j co) j (((t.us.map (setF name b c)).take j).flatMap usC) from by rw [← hW]; exact ownsRow_keeps HH.out.2.1 ((Keeps.refl _).alloc _))
   have HDB := Lib.hid (show w2.heap.size ≤ wz.heap.size ∧ ∀ x, (Value.slice p j co).ownBlock = some x → x < wz.heap.size from ⟨HH.out.2.2.size, fun x hx => by
    obtain ⟨cs, hh⟩ := owns_obj HH.out.2.1 hx
    exact (Array.getElem?_eq_some_iff.1 hh).1⟩)
   clear hW q2 HRG
   obtain ⟨d, hdd⟩ : ∃ z, wz.heap.size = z := ⟨_, rfl⟩
   rw [hdd] at HD HDB ⊢
   clear hdd
   by_cases hji : j = i
   ·have hq : ((j : Int) == (i : Int)) = true := by simp [hji]
    have HFE := Lib.hid (show setF name b c t.us[j] = ⟨un, nm, b, c⟩ from by rw [HFE0.out, if_pos hji])
    clear hji HFE0
    have d2 : wa.cell? ⟨d, 2, none⟩ = some (.int .i64 ub) := by rw [HD.out.cell]; rfl
    have d3 : wa.cell? ⟨d, 3, none⟩ = some (.int .i64 uc) := by rw [HD.out.cell]; rfl
    have y2 : wa.frozen? ⟨d, 2, none⟩ = false := HD.out.frozen 2
    have y3 : wa.frozen? ⟨d, 3, none⟩ = false := HD.out.frozen 3
    go_upto_region 13 with (refine wpList_ld rfl limM (HL.out.keeps HKa.out) _ rfl rfl ?_)
    generalize hW : World.setCell (World.setCell wa _ _) _ _ = wd
    have hm : Mods (· = d) wa wd := by rw [← hW]; exact ((Mods.refl (· = d) wa).setCell (p := ⟨d, 2, none⟩) (fun _ => rfl) _).setCell (p := ⟨d, 3, none⟩) (fun _ => rfl) _
    have HD := Lib.hid (show Blk wd d 42 #[.int .i64 un, .string (bstr nm), .int .i64 b, .int .i64 c] from by rw [← hW]; exact (HD.out.set_ 2 _).set_ 3 _)
    have HKd := Lib.hid (hm.keeps HKa.out (fun x hx => by rw [hx]; exact HDB.out.1))
    have HOd := Lib.hid (ownsRow_mods HOa.out hm (fun x hx e => by have := HDB.out.2 x hx; omega))
    clear hW hm d2 d3 y2 y3 HOa HKa hq
    have HEQ := Lib.hid (show setF name b c t.us[j] = ⟨un, nm, b, c⟩ from HFE.out)
    have hwz : w2.heap.size ≤ wd.heap.size := HKd.out.size
    go_wp2_with (first | refine wpList_ld rfl usrM HD.out _ rfl rfl ?_ | (at_builtin; refine wpList_apps (base := w2.heap.size) usOk (by decide) rfl _ _ rfl (.slice p j co) (.slice (some ⟨wd.heap.size, 0, none⟩) 1 1) j 1 (((t.us.map (setF name b c)).take j).flatMap usC) [.int .i64 un, .string (bstr nm), .int .i64 b, .int .i64 c] rfl rfl (ownsRow_keeps HOd.out ((Keeps.refl _).alloc _)) (rowS_lit rfl rfl rfl) (by simp [Value.oneCell']) (by omega) (by decide) (Nat.le_trans hwz ((Keeps.refl wd).alloc _).size) ?_; intro v7 w7 ho7 hg7 hf7; have HV := Lib.hid (And.intro ho7 ((HKd.out.alloc (.cells #[.int .i64 un, .string (bstr nm), .int .i64 b, .int .i64 c] 42)).grown hg7 (fun x hx => ownsRow_base HOd.out x hx))); clear ho7 hg7 hf7))
    obtain ⟨p7, c7, rfl, -, -⟩ := ownsRow_form HV.out.1
    go_wp2_with fail
    go_roundw
    case rel =>
     refine ⟨j + 1, p7, c7, rfl, by simp, Lib.hid ⟨by omega, ?_, HV.out.2⟩⟩
     have e1 : (t.us.map (setF name b c)).take (j + 1) = (t.us.map (setF name b c)).take j ++ [⟨un, nm, b, c⟩] := by
      rw [List.take_succ_eq_append_getElem (by simpa using hlt), List.getElem_map, HEQ.out]
     rw [e1, List.flatMap_append]
     exact HV.out.1
    case measure => simp only [RowKit.intOf]; omega
   ·have hq : ((j : Int) == (i : Int)) = false := by simp; omega
    have HFE := Lib.hid (show setF name b c t.us[j] = ⟨un, nm, ub, uc⟩ from by rw [HFE0.out, if_neg hji])
    clear hji HFE0
    obtain ⟨wd, rfl⟩ : ∃ z, z = wa := ⟨_, rfl⟩
    have HKd := Lib.hid HKa.out
    have HOd := Lib.hid HOa.out
    clear HKa HOa
    go_upto_region 13 with fail
    have HEQ := Lib.hid (show setF name b c t.us[j] = ⟨un, nm, ub, uc⟩ from HFE.out)
    have hwz : w2.heap.size ≤ wd.heap.size := HKd.out.size
    go_wp2_with (first | refine wpList_ld rfl usrM HD.out _ rfl rfl ?_ | (at_builtin; refine wpList_apps (base := w2.heap.size) usOk (by decide) rfl _ _ rfl (.slice p j co) (.slice (some ⟨wd.heap.size, 0, none⟩) 1 1) j 1 (((t.us.map (setF name b c)).take j).flatMap usC) [.int .i64 un, .string (bstr nm), .int .i64 ub, .int .i64 uc] rfl rfl (ownsRow_keeps HOd.out ((Keeps.refl _).alloc _)) (rowS_lit rfl rfl rfl) (by simp [Value.oneCell']) (by omega) (by decide) (Nat.le_trans hwz ((Keeps.refl wd).alloc _).size) ?_; intro v7 w7 ho7 hg7 hf7; have HV := Lib.hid (And.intro ho7 ((HKd.out.alloc (.cells #[.int .i64 un, .string (bstr nm), .int .i64 ub, .int .i64 uc] 42)).grown hg7 (fun x hx => ownsRow_base HOd.out x hx))); clear ho7 hg7 hf7))
    obtain ⟨p7, c7, rfl, -, -⟩ := ownsRow_form HV.out.1
    go_wp2_with fail
    go_roundw
    case rel =>
     refine ⟨j + 1, p7, c7, rfl, by simp, Lib.hid ⟨by omega, ?_, HV.out.2⟩⟩
     have e1 : (t.us.map (setF name b c)).take (j + 1) = (t.us.map (setF name b c)).take j ++ [⟨un, nm, ub, uc⟩] := by
      rw [List.take_succ_eq_append_getElem (by simpa using hlt), List.getElem_map, HEQ.out]
     rw [e1, List.flatMap_append]
     exact HV.out.1
    case measure => simp only [RowKit.intOf]; omega
  ·have hd : decide ((j : Int) < (t.us.length : Int)) = false := decide_eq_false (by omega)
   obtain rfl : j = t.us.length := by have := HH.out.1; omega
   have HO3 := Lib.hid (show wz.ownsRow w2.heap.size 42 4 (.slice p t.us.length co) t.us.length ((t.us.map (setF name b c)).flatMap usC) from by have := HH.out.2.1; rwa [List.take_of_length_le (by simp)] at this)
   have HB3 := Lib.hid (HB.out.keeps HH.out.2.2)
   have HG3 := Lib.hid (HG.out.keeps HH.out.2.2)
   have HT3 := Lib.hid (HT2.out.keeps HH.out.2.2)
   have HK3 := Lib.hid (HK.out.trans HH.out.2.2)
   clear HH hlt hw HB HG HT2 HL HUA HK
   have z2 : wz.frozen? ⟨q, 2, none⟩ = false := HB3.out.frozen 2
   go_upto_region 15 with fail
   have HB4 := Lib.hid (HB3.out.set_ 2 (.slice p t.us.length co))
   have hm4 : Mods (· = q) wz (wz.setCell ⟨q, 2, none⟩ (.slice p t.us.length co)) := (Mods.refl (· = q) wz).setCell (p := ⟨q, 2, none⟩) (fun _ => rfl) _
   have HT4 := Lib.hid (HT3.out.blk hm4 HB3.out (by decide))
   have HG4 := Lib.hid (HG3.out.mods hm4 (fun e => by omega))
   have HO4 := Lib.hid (ownsRow_mods HO3.out hm4 (fun x hx e => ownsRow_ne HO3.out HB3.out (by decide) (by rw [hx, e])))
   have HK4 := Lib.hid (hm4.keeps HK3.out (fun x hx => by rw [hx, ← HQ.out]; omega))
   clear q2 z2 hm4 HB3 HT3 HG3 HO3 HK3
   generalize wz.setCell _ _ = w5 at *
   have HB4 := Lib.hid (show Blk w5 q 32 #[.string (bstr t.dom), .int .i64 t.next, .slice p t.us.length co, .slice pa L.length ca] from HB4.out)
   go_wp2_with (first
    |refine wpList_ld rfl rtM HB4.out _ rfl rfl ?_
    |(refine wpList_st (ds := #[.string (bstr t.dom), .int .i64 t.next, .slice p t.us.length co, .slice pa L.length ca, .int .i64 0, .int .i64 0]) rfl gotM HG4.out rfl (by simp [Value.oneCell']) _ _ rfl rfl rfl rfl ?_; intro w9 hB9 hM9; have HLd := Lib.hid (ld_run (P := Tryz.prog) gotM hB9); have HM9 := Lib.hid hM9; clear hB9 hM9))
   refine bodyPost_ret (v := .agg #[.string (bstr t.dom), .int .i64 t.next, .slice p t.us.length co, .slice pa L.length ca, .int .i64 0, .int .i64 0]) (by simp [results, Tryz.results39, Sem.run_bind, Sem.run_pure, Result.andThen_ok, Act.put, asAddr, HLd.out]) rfl ?_
   have hk9 : Keeps w w9 := HM9.out.keeps HK4.out (fun x hx => by rw [hx, ← HQ.out]; omega)
   have ho9 : w9.ownsRow w2.heap.size 42 4 (.slice p t.us.length co) t.us.length ((t.us.map (setF name b c)).flatMap usC) := ownsRow_mods HO4.out HM9.out (fun x hx e => ownsRow_ne HO4.out HG4.out (by decide) (by rw [hx, e]))
   have hT9 := HT4.out.blk HM9.out HG4.out (by decide)
   rw [HX.out]
   refine ⟨_, _, L, rfl, ⟨?_, hT9.al, hT9.alm, hT9.pay⟩, hk9⟩
   show w9.ownsRow 0 42 4 _ (t.us.map (setF name b c)).length ((t.us.map (setF name b c)).flatMap usC)
   rw [List.length_map]
   exact ownsRow_low ho9
end Usr
end Go.Proofs.YtklbemkafdccgaaGreat

/- ref13.AddAlias, plain: which names are good; where a name is put. -/
namespace Go.Proofs.YtklbemkafdccgaaGreat
namespace Usr
open Adr (Str)
def goodI (name : Str) (tos : List Str) (i : Nat) : Bool := nameB name && decide (0 < tos.length) && (tos.take i).all nameB && decide (tos.take i).Nodup
theorem goodI_zero (name : Str) (tos : List Str) : goodI name tos 0 = (nameB name && decide (0 < tos.length)) := by simp [goodI]
theorem goodI_next {name : Str} {tos : List Str} {i : Nat} (hi : i < tos.length) (h : goodI name tos i = true) : goodI name tos (i + 1) = (nameB tos[i] && (tos.take i).all (fun s => decide (s ≠ tos[i]))) := by
 unfold goodI at h ⊢
 simp only [Bool.and_eq_true, decide_eq_true_eq] at h
 obtain ⟨⟨⟨h1, h2⟩, h3⟩, h4⟩ := h
 rw [List.take_succ_eq_append_getElem hi, List.all_append, h1, h3, decide_eq_true h2]
 simp only [Bool.true_and, List.all_cons, List.all_nil, Bool.and_true]
 congr 1
 rw [Bool.eq_iff_iff, decide_eq_true_eq, List.all_eq_true, List.nodup_append]
 constructor
 ·rintro ⟨-, -, hd⟩ x hx
  simpa using hd x hx tos[i] (by simp)
 ·intro hd
  refine ⟨h4, by simp, fun x hx y hy => ?_⟩
  simp only [List.mem_singleton] at hy
  subst hy
  simpa using hd x hx
theorem goodI_end {name : Str} {tos : List Str} {i : Nat} (hi : i ≤ tos.length) (h : (decide (i < tos.length) && goodI name tos i) = false) : goodI name tos i = (nameB name && namesB tos) := by
 by_cases hlt : i < tos.length
 ·rw [decide_eq_true hlt, Bool.true_and] at h
  rw [h]
  symm
  rw [Bool.eq_false_iff]
  intro hg
  rw [Bool.eq_false_iff] at h
  refine h ?_
  unfold namesB at hg
  simp only [Bool.and_eq_true, decide_eq_true_eq] at hg
  unfold goodI
  simp only [Bool.and_eq_true, decide_eq_true_eq]
  refine ⟨⟨⟨hg.1, by omega⟩, ?_⟩, (List.take_sublist i tos).nodup hg.2.1.2⟩
  rw [List.all_eq_true]
  exact fun x hx => List.all_eq_true.1 hg.2.1.1 x (List.mem_of_mem_take hx)
 ·obtain rfl : i = tos.length := by omega
  unfold goodI namesB
  rw [List.take_length, Bool.and_assoc, Bool.and_assoc]
  congr 1
  rw [Bool.eq_iff_iff]
  simp only [Bool.and_eq_true, decide_eq_true_eq, ne_eq]
  rw [List.length_pos_iff]
  constructor
  ·rintro ⟨a, b, c⟩; exact ⟨⟨b, c⟩, a⟩
  ·rintro ⟨⟨b, c⟩, a⟩; exact ⟨a, b, c⟩
theorem all_next {tos : List Str} {x : Str} {k : Nat} (hk : k < tos.length) : (tos.take (k + 1)).all (fun s => decide (s ≠ x)) = ((tos.take k).all (fun s => decide (s ≠ x)) && decide (tos[k] ≠ x)) := by
 rw [List.take_succ_eq_append_getElem hk, List.all_append]
 simp
theorem insA_snoc (x y : AlP) (hxy : ltS y.name x.name = false) : ∀ l : List AlP, insA x (l ++ [y]) = insA x l ++ [y]
 | [] => by simp [insA, hxy]
 |z :: r => by
  simp only [List.cons_append, insA]
  split
  ·rw [insA_snoc x y hxy r]; rfl
  ·rfl
/-- the aliases that stay, of the first k -/
def stay (A : List AlP) (name : Str) (k : Nat) : List AlP := (A.take k).filter fun a => decide (a.name ≠ name)
theorem stay_next {A : List AlP} {name : Str} {k : Nat} (hk : k < A.length) : stay A name (k + 1) = stay A name k ++ (if A[k].name = name then [] else [A[k]]) := by
 unfold stay
 rw [List.take_succ_eq_append_getElem hk, List.filter_append]
 congr 1
 by_cases h : A[k].name = name
 ·simp [h]
 ·simp [h]
/-- the list behind the first k: with the new one, or not yet -/
def outK (A : List AlP) (name : Str) (tos : List Str) (pb : Bool) (k : Nat) : List AlP := if pb then insA ⟨name, tos⟩ (stay A name k) else stay A name k
theorem outK_len {A : List AlP} {name : Str} {tos : List Str} {pb : Bool} {k : Nat} (hk : k ≤ A.length) : (outK A name tos pb k).length ≤ k + 1 := by
 have h : (stay A name k).length ≤ k := by
  unfold stay
  refine Nat.le_trans (List.length_filter_le _ _) ?_
  rw [List.length_take]; omega
 unfold outK
 split
 ·rw [(insA_perm _ _).length_eq, List.length_cons]; omega
 ·omega
/-- put or not: whether one of the first k is not below the name -/
structure PutK (A : List AlP) (name : Str) (pb : Bool) (k : Nat) : Prop where
 no : pb = false → ∀ j (hj : j < A.length), j < k → ltS A[j].name name = true
 yes : pb = true → ∃ j, ∃ (hj : j < A.length), j < k ∧ ltS A[j].name name = false
theorem stay_below {A : List AlP} {name : Str} {k : Nat} (hk : k ≤ A.length) (h : PutK A name false k) : ∀ a ∈ stay A name k, ltS a.name name = true := by
 intro a ha
 have ha := (List.mem_filter.1 ha).1
 obtain ⟨j, hj, rfl⟩ := List.getElem_of_mem ha
 rw [List.length_take] at hj
 rw [List.getElem_take]
 exact h.no rfl j (by omega) (by omega)
theorem out_push {A : List AlP} {name : Str} {tos : List Str} {k : Nat} (hk : k ≤ A.length) (h : PutK A name false k) : outK A name tos true k = outK A name tos false k ++ [⟨name, tos⟩] := by
 unfold outK
 rw [if_pos rfl, if_neg (by simp), insA_end _ _ (fun a ha => stay_below hk h a ha)]
theorem out_next {A : List AlP} {name : Str} {tos : List Str} {pb : Bool} {k : Nat} (hk : k < A.length) (h : pb = true → ltS A[k].name name = false) : outK A name tos pb (k + 1) = outK A name tos pb k ++ (if A[k].name = name then [] else [A[k]]) := by
 unfold outK
 rw [stay_next hk]
 cases pb with
 |false => rfl
 |true =>
  simp only [if_true]
  by_cases e : A[k].name = name
  ·simp [e]
  ·rw [if_neg e]
   exact insA_snoc _ _ (h rfl) _
theorem putK_up {A : List AlP} {name : Str} {k j : Nat} (hs : A.Pairwise fun a b => ltS a.name b.name = true) (hj : j < A.length) (hk : k < A.length) (hjk : j < k) (h : ltS A[j].name name = false) : ltS A[k].name name = false := by
 have h1 := List.pairwise_iff_getElem.1 hs j k hj hk hjk
 rw [Bool.eq_false_iff] at h ⊢
 intro h2
 exact h ((ltS_lt _ _).2 (List.lt_trans ((ltS_lt _ _).1 h1) ((ltS_lt _ _).1 h2)))
theorem putK_yes {A : List AlP} {name : Str} {k : Nat} (hs : A.Pairwise fun a b => ltS a.name b.name = true) (hk : k < A.length) (h : PutK A name true k) : ltS A[k].name name = false := by
 obtain ⟨j, hj, hjk, hl⟩ := h.yes rfl
 exact putK_up hs hj hk hjk hl
theorem PutK.zero (A : List AlP) (name : Str) : PutK A name false 0 := ⟨fun _ j _ h => by omega, fun h => by cases h⟩
theorem PutK.more {A : List AlP} {name : Str} {k : Nat} (h : PutK A name true k) : PutK A name true (k + 1) := by
 obtain ⟨j, hj, a, b⟩ := h.yes rfl
 exact ⟨fun h => by simp at h, fun _ => ⟨j, hj, by omega, b⟩⟩
theorem PutK.turn {A : List AlP} {name : Str} {k : Nat} (hk : k < A.length) (h : ltS A[k].name name = false) : PutK A name true (k + 1) := ⟨fun h => by simp at h, fun _ => ⟨k, hk, by omega, h⟩⟩
theorem PutK.low {A : List AlP} {name : Str} {k : Nat} (hk : k < A.length) (h : PutK A name false k) (hl : ltS A[k].name name = true) : PutK A name false (k + 1) := ⟨fun _ j hj hjk => by
 by_cases e : j = k
 ·subst e; exact hl
 ·exact h.no rfl j hj (by omega), fun h => by simp at h⟩
end Usr
end Go.Proofs.YtklbemkafdccgaaGreat

/- ref13: Bytes. -/
namespace Go.Proofs.YtklbemkafdccgaaGreat
open Go.RowKit
namespace Usr
open Adr (Str)
open Frm (bstr_append)
open Env (textB)
open Oct (be unsV)
theorem rUns_keeps (v : Int) (hf : Oct.fitsB v 8 = true) (w : World) : Calls Tryz.prog 107 #[.int .i64 v, .int .i64 (8 : Nat)] w fun e w' => e = .returned (.int .u64 (unsV v 8 : Nat)) ∧ Keeps w w' :=
 (Oct.rUnsigned_any v 8 hf w).mono fun e w' ⟨h1, h2⟩ => ⟨h1, h2 ▸ Keeps.refl _⟩
set_option maxRecDepth 100000 in
set_option maxHeartbeats 8000000 in
theorem rBytes_any (w : World) (uv av : Value) (t : TabP) (L : List (AlP × Value)) (h : RT w uv av t L) (hR : Right t) (hd : t.dom.length ≤ 1000000) : Calls Tryz.prog 50 #[rtV uv av t] w fun e w' => ∃ v, e = .returned v ∧ Row w' v ((bytesT t).map u8v) ∧ Keeps w w' := by
 have HUL := Lib.hid hR.ul
 have HAL := Lib.hid hR.all
 have HLA := Lib.hid (show L.length = t.al.length from by rw [← h.alm, List.length_map])
 have HRt := Lib.hid hR
 obtain ⟨pu, cu, pa, ca, rfl, rfl, -, -⟩ := h.forms
 have HR := Lib.hid h
 have CT := Lib.hid (fun w' => rTextS_any t.dom hd w')
 have CN := Lib.hid (fun w' => rNumber_any t.next.toNat (by have := hR.nx; omega) 2 (by decide) (by decide) (by have := hR.nx; omega) w')
 have CU := Lib.hid (fun w' => rNumber_any t.us.length (by have := hR.ul; omega) 1 (by decide) (by decide) (by have := hR.ul; omega) w')
 have HNX := Lib.hid (show ((t.next.toNat : Nat) : Int) = t.next from by have := hR.nx; omega)
 rw [HNX.out] at CN
 have hu1 : IntKind.u64.wrap t.next = t.next := by have := hR.nx; rw [IntKind.wrap_u64]; omega
 have hu2 : IntKind.u64.wrap (t.us.length : Int) = (t.us.length : Int) := by have := hR.ul; rw [IntKind.wrap_u64]; omega
 have HUS := Lib.hid (fun j => takeF_len usrL 54 t.us (fun u hu => usrL_len (nameB_len (hR.un u hu).1).1) j)
 have HAS := Lib.hid (fun j => takeF_len alL 325 t.al (fun a ha => alL_len (nameB_len (hR.an a ha).1).1 (fun x hx => by
  have := (hR.an a ha).2.1
  unfold namesB at this
  simp only [Bool.and_eq_true, List.all_eq_true] at this
  exact (nameB_len (this.1.1 x hx)).1) (hR.an a ha).2.2) j)
 have HTB := Lib.hid (show ∀ s : Str, (textB s).length = 4 + s.length from fun s => by unfold textB; simp [Oct.be_length])
 have CA := Lib.hid (fun w' => rNumber_any L.length (by have := hR.all; have := HLA.out; omega) 1 (by decide) (by decide) (by have := hR.all; have := HLA.out; omega) w')
 clear h hR
 unfold rtV
 go_enter Tryz.func50, Tryz.ntmps50
 go_upto_region 1 with fail
 generalize hW : World.alloc w _ = w1
 have HK := Lib.hid (show Keeps w w1 from by rw [← hW]; exact (Keeps.refl _).alloc _)
 have HB := Lib.hid (show Blk w1 w.heap.size 32 #[.string (bstr t.dom), .int .i64 t.next, .slice pu t.us.length cu, .slice pa L.length ca] from by rw [← hW]; exact Blk.new _ _ _ rfl)
 clear hW
 obtain ⟨q, hq⟩ : ∃ z, w.heap.size = z := ⟨_, rfl⟩
 have HQ := Lib.hid hq
 rw [hq] at HB ⊢
 clear hq
 have q0 : w1.cell? ⟨q, 0, none⟩ = some (.string (bstr t.dom)) := by rw [HB.out.cell]; rfl
 have q1 : w1.cell? ⟨q, 1, none⟩ = some (.int .i64 t.next) := by rw [HB.out.cell]; rfl
 have q2 : w1.cell? ⟨q, 2, none⟩ = some (.slice pu t.us.length cu) := by rw [HB.out.cell]; rfl
 have hcat1 : bstr (textB t.dom) ++ bstr (be 2 t.next.toNat) = bstr (textB t.dom ++ be 2 t.next.toNat) := bstr_append _ _
 have hcat2 : bstr (textB t.dom ++ be 2 t.next.toNat) ++ bstr (be 1 t.us.length) = bstr (textB t.dom ++ be 2 t.next.toNat ++ be 1 t.us.length) := bstr_append _ _
 have z1 : (bstr (textB t.dom)).size = 4 + t.dom.length := by rw [bstr_size]; simp [textB, Oct.be_length]
 have z2 : (bstr (be 2 t.next.toNat)).size = 2 := by rw [bstr_size, Oct.be_length]
 have z3 : (bstr (be 1 t.us.length)).size = 1 := by rw [bstr_size, Oct.be_length]
 have z4 : (bstr (textB t.dom ++ be 2 t.next.toNat)).size = 4 + t.dom.length + 2 := by rw [bstr_size]; simp [textB, Oct.be_length]; omega
 have y1 : ¬ 9223372036854775807 < 4 + t.dom.length + 2 := by omega
 have y2 : ¬ 9223372036854775807 < 4 + t.dom.length + 2 + 1 := by omega
 go_cut [3] (fun sv wx => sv = .string (bstr (textB t.dom ++ (be 2 t.next.toNat ++ be 1 t.us.length))) ∧ Hid (Keeps w1 wx))
 case first =>
  refine wp_region_noPanic ?_
  refine wp_region_held_drew (S := fun w' => Keeps (w1) w') (by kernel_rfl) ((Keeps.refl _).drew) (fun _ => ?_)
  have hHeld : Keeps (w1) (w1).drew := (Keeps.refl _).drew
  refine tq 0 9 ?_
  refine tq 1 10 ?_ (hy := fun w' hSw => by
   have hSw : Keeps _ w' := hSw
   have h0 := keep1 hSw q0
   clear hSw
   go_simp
   try with_reducible rfl)
  refine tq 3 12 ?_
  refine tq 4 13 ?_ (hy := fun w' hSw => by
   have hSw : Keeps _ w' := hSw
   have h0 := keep1 hSw q1
   clear hSw
   go_simp
   try with_reducible rfl)
  refine tq 5 14 ?_
  refine tq 8 17 ?_
  refine tq 9 18 ?_ (hy := fun w' hSw => by
   have hSw : Keeps _ w' := hSw
   have h0 := keep1 hSw q2
   clear hSw
   go_simp
   try with_reducible rfl)
  refine tq 10 19 ?_
  refine tq 11 20 ?_
  refine rd1 2 (fun K hK => ?_)
  go_simp
  refine (CT.out _).mono ?_
  rintro e yA ⟨rfl, hk⟩
  have hb : Keeps _ yA := hHeld.trans hk
  have HY := Lib.hid (hHeld.trans hk)
  go_wp2_with fail
  refine bk1 hK hb ?_
  clear hK K hHeld hb hk
  intro hHeld
  refine rd1 6 (fun K hK => ?_)
  go_simp
  refine (CN.out _).mono ?_
  rintro e yB ⟨rfl, hk⟩
  have hb : Keeps _ yB := hHeld.trans hk
  have HY := Lib.hid (HY.out.trans (hHeld.trans hk))
  go_wp2_with fail
  refine bk1 hK hb ?_
  clear hK K hHeld hb hk
  intro hHeld
  refine tq 7 16 ?_
  refine rd1 12 (fun K hK => ?_)
  go_simp
  refine (CU.out _).mono ?_
  rintro e yC ⟨rfl, hk⟩
  have hb : Keeps _ yC := hHeld.trans hk
  have HY := Lib.hid (HY.out.trans (hHeld.trans hk))
  go_wp2_with fail
  refine bk1 hK hb ?_
  clear hK K hHeld hb hk
  intro hHeld
  refine tq 13 22 ?_
  refine tq 14 3 ?_
  refine wpAnyH_done (by kernel_rfl) ?_ _
  refine NoPanic.normal ?_
  go_wp2_with fail
  go_meet
  exact ⟨rfl, Lib.hid (HY.out.trans hHeld)⟩
 case rest =>
 obtain ⟨rfl, HKc⟩ := hcut
 obtain ⟨w2, rfl⟩ : ∃ z : World, z = wc := ⟨_, rfl⟩
 have HK := Lib.hid (HK.out.trans HKc.out)
 have HB := Lib.hid (HB.out.keeps HKc.out)
 have HT := Lib.hid (HR.out.keeps HK.out)
 clear HKc q0 q1 q2 hcat1 hcat2 z1 z2 z3 z4 y1 y2 hu1 hu2 CT CN CU HNX
 obtain ⟨P0, hP0⟩ : ∃ z, textB t.dom ++ (be 2 t.next.toNat ++ be 1 t.us.length) = z := ⟨_, rfl⟩
 have HP0 := Lib.hid hP0
 have HPL := Lib.hid (show P0.length ≤ 1000010 from by rw [← hP0]; simp only [List.length_append, HTB.out, Oct.be_length]; omega)
 rw [hP0]
 clear hP0
 have HUA := Lib.hid (show ∀ wx, Keeps w2 wx → ∀ j (hj : j < t.us.length), ∃ bs o, pu = some ⟨bs, o, none⟩ ∧ wx.rangeAt bs (o + j * 4) [.int .i64 t.us[j].n, .string (bstr t.us[j].name), .int .i64 t.us[j].lb, .int .i64 t.us[j].lc] from fun wx k j hj => by
  rcases (HT.out.keeps k).tab.us.2 with ⟨a0, cap, hv, h0, -⟩ | ⟨b', off, cap, hv, -, -, hc⟩
  ·omega
  ·simp only [Value.slice.injEq] at hv
   refine ⟨b', off, hv.1, fun m v hm => ?_⟩
   have hm4 : m < 4 := by have := (List.getElem?_eq_some_iff.1 hm).1; simpa using this
   have := hc (j * 4 + m) v (by rw [us_at hj hm4]; exact hm)
   rwa [← Nat.add_assoc] at this)
 go_wp2_with fail
 go_loopw [3, 4] (fun sv iv wr => ∃ (j : Nat) (S : Str), sv = .string (bstr S) ∧ iv = .int .i64 (j : Int) ∧ Hid (j ≤ t.us.length ∧ S = P0 ++ (t.us.take j).flatMap usrL ∧ Keeps w2 wr)) (fun _ iv _ => t.us.length - (RowKit.intOf iv).toNat)
 case atStart => exact ⟨0, P0, rfl, rfl, Lib.hid ⟨Nat.zero_le _, by simp, Keeps.refl _⟩⟩
 case round =>
  obtain ⟨j, S, rfl, rfl, HH⟩ := hrel
  obtain ⟨wz, rfl⟩ : ∃ z : World, z = wr := ⟨_, rfl⟩
  have q2 : wz.cell? ⟨q, 2, none⟩ = some (.slice pu t.us.length cu) := by rw [(HB.out.keeps HH.out.2.2).cell]; rfl
  have hw : IntKind.i64.wrap ((j : Int) + 1) = (j : Int) + 1 := IntWalk.i64_in _ (by have := HUL.out; have := HH.out.1; omega)
  have HSL := Lib.hid (show S.length ≤ 1000010 + 54 * 16 from by
   rw [HH.out.2.1, List.length_append]
   have h1 := HUS.out j
   have h2 := HUL.out
   have h3 := HPL.out
   have h4 := HH.out.1
   have : j * 54 ≤ 16 * 54 := Nat.mul_le_mul_right _ (by omega)
   omega)
  by_cases hlt : j < t.us.length
  ·have hd : decide ((j : Int) < (t.us.length : Int)) = true := decide_eq_true (by omega)
   obtain ⟨bs, o, hpu, hrg⟩ := HUA.out wz HH.out.2.2 j hlt
   subst hpu
   have HRG := Lib.hid hrg
   have hun := HRt.out.un _ (List.getElem_mem hlt)
   have hlo := HRt.out.lo _ (List.getElem_mem hlt)
   have hnx := HRt.out.nx
   obtain ⟨un, hun'⟩ : ∃ un : Nat, t.us[j].n = un := Int.eq_ofNat_of_zero_le (show 0 ≤ t.us[j].n by omega)
   have hnl := (nameB_len hun.1).1
   obtain ⟨hfb, hfc⟩ := lim_fits hun.2
   have HNE := Lib.hid (show (t.us.take (j + 1)).flatMap usrL = (t.us.take j).flatMap usrL ++ (be 2 un ++ (textB t.us[j].name ++ (be 8 (unsV t.us[j].lb 8) ++ be 8 (unsV t.us[j].lc 8)))) from by rw [takeF_next usrL hlt]; unfold usrL; rw [hun']; rfl)
   rw [hun'] at HRG
   have hwu : IntKind.u64.wrap (un : Int) = (un : Int) := IntWalk.u64_in _ (by omega)
   have C1 := Lib.hid (fun w' => rNumber_any un (by omega) 2 (by decide) (by decide) (by have : (256 : Nat) ^ 2 = 65536 := rfl; omega) w')
   have C2 := Lib.hid (fun w' => rTextS_any t.us[j].name (by omega) w')
   have U3 := Lib.hid (fun w' => rUns_keeps t.us[j].lb hfb w')
   have C3 := Lib.hid (fun w' => rNumber_any (unsV t.us[j].lb 8) (uns_lt _) 8 (by decide) (by decide) (uns_lt _) w')
   have U4 := Lib.hid (fun w' => rUns_keeps t.us[j].lc hfc w')
   have C4 := Lib.hid (fun w' => rNumber_any (unsV t.us[j].lc 8) (uns_lt _) 8 (by decide) (by decide) (uns_lt _) w')
   have l2 : (textB t.us[j].name).length ≤ 36 := by rw [HTB.out]; omega
   have l1 : (be 2 un).length = 2 := Oct.be_length _ _
   have l3 : (be 8 (unsV t.us[j].lb 8)).length = 8 := Oct.be_length _ _
   have l4 : (be 8 (unsV t.us[j].lc 8)).length = 8 := Oct.be_length _ _
   generalize t.us[j].name = U at *
   generalize t.us[j].lb = ub at *
   generalize t.us[j].lc = uc at *
   clear hrg hun hlo hnx hun' hnl hfb hfc
   generalize unsV ub 8 = vb at *
   generalize unsV uc 8 = vc at *
   generalize be 2 un = A1 at *
   generalize textB U = A2 at *
   generalize be 8 vb = A3 at *
   generalize be 8 vc = A4 at *
   obtain ⟨T1, hT1⟩ : ∃ z, S ++ A1 = z := ⟨_, rfl⟩
   obtain ⟨T2, hT2⟩ : ∃ z, T1 ++ A2 = z := ⟨_, rfl⟩
   obtain ⟨T3, hT3⟩ : ∃ z, T2 ++ A3 = z := ⟨_, rfl⟩
   obtain ⟨T4, hT4⟩ : ∃ z, T3 ++ A4 = z := ⟨_, rfl⟩
   have c1 : bstr S ++ bstr A1 = bstr T1 := by rw [bstr_append, hT1]
   have c2 : bstr T1 ++ bstr A2 = bstr T2 := by rw [bstr_append, hT2]
   have c3 : bstr T2 ++ bstr A3 = bstr T3 := by rw [bstr_append, hT3]
   have c4 : bstr T3 ++ bstr A4 = bstr T4 := by rw [bstr_append, hT4]
   have m1 : T1.length = S.length + A1.length := by rw [← hT1, List.length_append]
   have m2 : T2.length = T1.length + A2.length := by rw [← hT2, List.length_append]
   have m3 : T3.length = T2.length + A3.length := by rw [← hT3, List.length_append]
   have y1 : ¬ 9223372036854775807 < S.length + A1.length := by have := HSL.out; omega
   have y2 : ¬ 9223372036854775807 < T1.length + A2.length := by have := HSL.out; omega
   have y3 : ¬ 9223372036854775807 < T2.length + A3.length := by have := HSL.out; omega
   have y4 : ¬ 9223372036854775807 < T3.length + A4.length := by have := HSL.out; omega
   have s0 : (bstr S).size = S.length := bstr_size _
   have s1 : (bstr T1).size = T1.length := bstr_size _
   have s2 : (bstr T2).size = T2.length := bstr_size _
   have s3 : (bstr T3).size = T3.length := bstr_size _
   have r1 : (bstr A1).size = A1.length := bstr_size _
   have r2 : (bstr A2).size = A2.length := bstr_size _
   have r3 : (bstr A3).size = A3.length := bstr_size _
   have r4 : (bstr A4).size = A4.length := bstr_size _
   have HT4 := Lib.hid (show P0 ++ (t.us.take (j + 1)).flatMap usrL = T4 from by
    rw [HNE.out, ← hT4, ← hT3, ← hT2, ← hT1, HH.out.2.1]
    simp only [List.append_assoc])
   clear hT1 hT2 hT3 hT4 m1 m2 m3 l1 l2 l3 l4 HNE
   go_upto_block 1 with fail
   go_cut [3] (fun sv wx => sv = .string (bstr T4) ∧ Hid (Keeps w2 wx))
   case first =>
    go_upto_region 6 with (refine wpList_ldR rfl usrM HRG.out _ rfl rfl ?_)
    generalize hW : World.alloc wz _ = wa
    have HD := Lib.hid (show Blk wa wz.heap.size 42 #[.int .i64 (un : Int), .string (bstr U), .int .i64 ub, .int .i64 uc] from by rw [← hW]; exact Blk.new _ _ _ rfl)
    have HKa := Lib.hid (show Keeps w2 wa from by rw [← hW]; exact HH.out.2.2.alloc _)
    clear hW q2 HRG
    obtain ⟨d, hdd⟩ : ∃ z, wz.heap.size = z := ⟨_, rfl⟩
    rw [hdd] at HD ⊢
    clear hdd
    have d0 : wa.cell? ⟨d, 0, none⟩ = some (.int .i64 (un : Int)) := by rw [HD.out.cell]; rfl
    have d1 : wa.cell? ⟨d, 1, none⟩ = some (.string (bstr U)) := by rw [HD.out.cell]; rfl
    have d2 : wa.cell? ⟨d, 2, none⟩ = some (.int .i64 ub) := by rw [HD.out.cell]; rfl
    have d3 : wa.cell? ⟨d, 3, none⟩ = some (.int .i64 uc) := by rw [HD.out.cell]; rfl
    refine wp_region_noPanic ?_
    refine wp_region_held_drew (S := fun w' => Keeps (wa) w') (by kernel_rfl) ((Keeps.refl _).drew) (fun _ => ?_)
    have hHeld : Keeps (wa) (wa).drew := (Keeps.refl _).drew
    refine tq 0 35 ?_
    refine tq 1 36 ?_
    refine tq 2 37 ?_ (hy := fun w' hSw => by
     have hSw : Keeps _ w' := hSw
     have h0 := keep1 hSw d0
     clear hSw
     go_simp
     try with_reducible rfl)
    refine tq 3 38 ?_
    refine tq 6 41 ?_
    refine tq 7 42 ?_ (hy := fun w' hSw => by
     have hSw : Keeps _ w' := hSw
     have h0 := keep1 hSw d1
     clear hSw
     go_simp
     try with_reducible rfl)
    refine tq 10 45 ?_
    refine tq 11 46 ?_
    refine tq 12 47 ?_ (hy := fun w' hSw => by
     have hSw : Keeps _ w' := hSw
     have h0 := keep1 hSw d2
     clear hSw
     go_simp
     try with_reducible rfl)
    refine tq 16 51 ?_
    refine tq 17 52 ?_
    refine tq 18 53 ?_ (hy := fun w' hSw => by
     have hSw : Keeps _ w' := hSw
     have h0 := keep1 hSw d3
     clear hSw
     go_simp
     try with_reducible rfl)
    refine rd1 4 (fun K hK => ?_)
    go_simp
    refine (C1.out _).mono ?_
    rintro e yA ⟨rfl, hk⟩
    have hb : Keeps _ yA := hHeld.trans hk
    have HY := Lib.hid (hHeld.trans hk)
    go_wp2_with fail
    refine bk1 hK hb ?_
    clear hK K hHeld hb hk
    intro hHeld
    refine tq 5 40 ?_
    refine rd1 8 (fun K hK => ?_)
    go_simp
    refine (C2.out _).mono ?_
    rintro e yB ⟨rfl, hk⟩
    have hb : Keeps _ yB := hHeld.trans hk
    have HY := Lib.hid (HY.out.trans (hHeld.trans hk))
    go_wp2_with fail
    refine bk1 hK hb ?_
    clear hK K hHeld hb hk
    intro hHeld
    refine tq 9 44 ?_
    refine rd1 13 (fun K hK => ?_)
    go_simp
    refine (U3.out _).mono ?_
    rintro e yC ⟨rfl, hk⟩
    have hb : Keeps _ yC := hHeld.trans hk
    have HY := Lib.hid (HY.out.trans (hHeld.trans hk))
    go_wp2_with fail
    refine bk1 hK hb ?_
    clear hK K hHeld hb hk
    intro hHeld
    refine rd1 14 (fun K hK => ?_)
    go_simp
    refine (C3.out _).mono ?_
    rintro e yD ⟨rfl, hk⟩
    have hb : Keeps _ yD := hHeld.trans hk
    have HY := Lib.hid (HY.out.trans (hHeld.trans hk))
    go_wp2_with fail
    refine bk1 hK hb ?_
    clear hK K hHeld hb hk
    intro hHeld
    refine tq 15 50 ?_
    refine rd1 19 (fun K hK => ?_)
    go_simp
    refine (U4.out _).mono ?_
    rintro e yE ⟨rfl, hk⟩
    have hb : Keeps _ yE := hHeld.trans hk
    have HY := Lib.hid (HY.out.trans (hHeld.trans hk))
    go_wp2_with fail
    refine bk1 hK hb ?_
    clear hK K hHeld hb hk
    intro hHeld
    refine rd1 20 (fun K hK => ?_)
    go_simp
    refine (C4.out _).mono ?_
    rintro e yF ⟨rfl, hk⟩
    have hb : Keeps _ yF := hHeld.trans hk
    have HY := Lib.hid (HY.out.trans (hHeld.trans hk))
    go_wp2_with fail
    refine bk1 hK hb ?_
    clear hK K hHeld hb hk
    intro hHeld
    refine tq 21 56 ?_
    refine tq 22 3 ?_
    refine wpAnyH_done (by kernel_rfl) ?_ _
    refine NoPanic.normal ?_
    go_wp2_with fail
    go_meet
    exact ⟨rfl, Lib.hid (HKa.out.trans (HY.out.trans hHeld))⟩
   case rest =>
   obtain ⟨rfl, HKc⟩ := hcut
   go_wp2_with fail
   go_roundw
   case rel => exact ⟨j + 1, T4, rfl, by simp, Lib.hid ⟨by omega, HT4.out.symm, HKc.out⟩⟩
   case measure => simp only [RowKit.intOf]; omega
  ·have hd : decide ((j : Int) < (t.us.length : Int)) = false := decide_eq_false (by omega)
   obtain rfl : j = t.us.length := by have := HH.out.1; omega
   have HB3 := Lib.hid (HB.out.keeps HH.out.2.2)
   have HT3 := Lib.hid (HT.out.keeps HH.out.2.2)
   have HK3 := Lib.hid (HK.out.trans HH.out.2.2)
   have HS := Lib.hid (show S = P0 ++ t.us.flatMap usrL from by have := HH.out.2.1; rwa [List.take_length] at this)
   clear HH HB HT HK HUA hw hlt
   have q3 : wz.cell? ⟨q, 3, none⟩ = some (.slice pa L.length ca) := by rw [HB3.out.cell]; rfl
   have hu3 : IntKind.u64.wrap (L.length : Int) = (L.length : Int) := IntWalk.u64_in _ (by have := HLA.out; have := HAL.out; omega)
   have l5 : (be 1 L.length).length = 1 := Oct.be_length _ _
   obtain ⟨A5, hA5⟩ : ∃ z, be 1 L.length = z := ⟨_, rfl⟩
   have HA6 := Lib.hid (show be 1 t.al.length = A5 from by rw [← hA5, HLA.out])
   rw [hA5] at CA l5
   clear hA5
   obtain ⟨P1, hP1⟩ : ∃ z, S ++ A5 = z := ⟨_, rfl⟩
   have c1 : bstr S ++ bstr A5 = bstr P1 := by rw [bstr_append, hP1]
   have y1 : ¬ 9223372036854775807 < S.length + A5.length := by have := HSL.out; omega
   have s0 : (bstr S).size = S.length := bstr_size _
   have r1 : (bstr A5).size = A5.length := bstr_size _
   have HP1 := Lib.hid (show P1 = P0 ++ (t.us.flatMap usrL ++ A5) from by rw [← hP1, HS.out]; simp only [List.append_assoc])
   have HP1L := Lib.hid (show P1.length ≤ 1000010 + 54 * 16 + 1 from by rw [← hP1, List.length_append, l5]; have := HSL.out; omega)
   clear hP1 l5
   go_wp2_with fail
   refine (CA.out _).mono ?_
   rintro e w3 ⟨rfl, hk⟩
   have HB := Lib.hid (HB3.out.keeps hk)
   have HT := Lib.hid (HT3.out.keeps hk)
   have HK := Lib.hid (HK3.out.trans hk)
   clear hk HB3 HT3 HK3 CA q2 q3 hu3
   have HAA := Lib.hid (show ∀ wx, Keeps w3 wx → ∀ j (hj : j < L.length), ∃ bs o pp cc, pa = some ⟨bs, o, none⟩ ∧ wx.rangeAt bs (o + j * 2) [.string (bstr L[j].1.name), .slice pp L[j].1.tos.length cc] ∧ Row wx (.slice pp L[j].1.tos.length cc) (L[j].1.tos.map strV) from fun wx k j hj => by
    have hr : AlsR wx (.slice pa L.length ca) L := ⟨(HT.out.keeps k).tab.al, (HT.out.keeps k).tab.pay⟩
    obtain ⟨b, o, pp, cc, hpa, h1, h2, h3⟩ := hr.one hj
    refine ⟨b, o, pp, cc, hpa, fun m v hm => ?_, h3⟩
    have hm2 : m < 2 := by have := (List.getElem?_eq_some_iff.1 hm).1; simpa using this
    rcases (show m = 0 ∨ m = 1 by omega) with rfl | rfl
    ·simp at hm; subst hm; exact h1
    ·simp at hm; subst hm; rw [← h2])
   have HAN := Lib.hid (show ∀ j (hj : j < L.length), ∃ hj' : j < t.al.length, L[j].1 = t.al[j] from fun j hj => by
    have hj' : j < t.al.length := by rw [← HLA.out]; exact hj
    refine ⟨hj', ?_⟩
    have e1 : (L.map (·.1))[j]? = some L[j].1 := by rw [List.getElem?_map, List.getElem?_eq_getElem hj]; rfl
    rw [HT.out.alm, List.getElem?_eq_getElem hj'] at e1
    exact (Option.some.inj e1).symm)
   go_wp2_with fail
   go_loopw [3, 6] (fun sv iv wr => ∃ (j : Nat) (S : Str), sv = .string (bstr S) ∧ iv = .int .i64 (j : Int) ∧ Hid (j ≤ L.length ∧ S = P1 ++ (t.al.take j).flatMap alL ∧ Keeps w3 wr)) (fun _ iv _ => L.length - (RowKit.intOf iv).toNat)
   case atStart => exact ⟨0, P1, rfl, rfl, Lib.hid ⟨Nat.zero_le _, by simp, Keeps.refl _⟩⟩
   case round =>
    obtain ⟨j, S2, rfl, rfl, HH⟩ := hrel
    obtain ⟨wz, rfl⟩ : ∃ z : World, z = wr := ⟨_, rfl⟩
    clear s0 r1 c1 y1
    have q3 : wz.cell? ⟨q, 3, none⟩ = some (.slice pa L.length ca) := by rw [(HB.out.keeps HH.out.2.2).cell]; rfl
    have hw : IntKind.i64.wrap ((j : Int) + 1) = (j : Int) + 1 := IntWalk.i64_in _ (by have := HLA.out; have := HAL.out; have := HH.out.1; omega)
    have HSL2 := Lib.hid (show S2.length ≤ 1000010 + 54 * 16 + 1 + 325 * 16 from by
     rw [HH.out.2.1, List.length_append]
     have h1 := HAS.out j
     have h2 := HAL.out
     have h3 := HP1L.out
     have h4 := HH.out.1
     have h5 := HLA.out
     have : j * 325 ≤ 16 * 325 := Nat.mul_le_mul_right _ (by omega)
     omega)
    by_cases hlt : j < L.length
    ·have hd : decide ((j : Int) < (L.length : Int)) = true := decide_eq_true (by omega)
     obtain ⟨bs, o, pp, cc, hpa, hrg, hrow⟩ := HAA.out wz HH.out.2.2 j hlt
     subst hpa
     have HRG := Lib.hid hrg
     have HROW := Lib.hid hrow
     obtain ⟨hjt, hja⟩ := HAN.out j hlt
     have han := HRt.out.an _ (List.getElem_mem hjt)
     have HNE := Lib.hid (show (t.al.take (j + 1)).flatMap alL = (t.al.take j).flatMap alL ++ (textB L[j].1.name ++ (be 1 L[j].1.tos.length ++ tosL L[j].1.tos)) from by rw [takeF_next alL hjt, hja]; rfl)
     rw [← hja] at han
     have hnl := (nameB_len han.1).1
     have HTL := Lib.hid (show ∀ x ∈ L[j].1.tos, x.length ≤ 32 from fun x hx => by
      have := han.2.1
      unfold namesB at this
      simp only [Bool.and_eq_true, List.all_eq_true] at this
      exact (nameB_len (this.1.1 x hx)).1)
     have h8 := han.2.2
     have C1 := Lib.hid (fun w' => rTextS_any L[j].1.name (by omega) w')
     have C2 := Lib.hid (fun w' => rNumber_any L[j].1.tos.length (by omega) 1 (by decide) (by decide) (by have : (256 : Nat) ^ 1 = 256 := rfl; omega) w')
     have l1 : (textB L[j].1.name).length ≤ 36 := by rw [HTB.out]; omega
     have l2 : (be 1 L[j].1.tos.length).length = 1 := Oct.be_length _ _
     clear hrg hrow hja han hjt hnl
     generalize L[j].1.name = U at *
     generalize L[j].1.tos = T at *
     generalize textB U = A1 at *
     have hwu : IntKind.u64.wrap (T.length : Int) = (T.length : Int) := IntWalk.u64_in _ (by omega)
     generalize be 1 T.length = A2 at *
     obtain ⟨T1, hT1⟩ : ∃ z, S2 ++ A1 = z := ⟨_, rfl⟩
     obtain ⟨T2, hT2⟩ : ∃ z, T1 ++ A2 = z := ⟨_, rfl⟩
     have c1 : bstr S2 ++ bstr A1 = bstr T1 := by rw [bstr_append, hT1]
     have c2 : bstr T1 ++ bstr A2 = bstr T2 := by rw [bstr_append, hT2]
     have m1 : T1.length = S2.length + A1.length := by rw [← hT1, List.length_append]
     have m2 : T2.length = T1.length + A2.length := by rw [← hT2, List.length_append]
     have y1 : ¬ 9223372036854775807 < S2.length + A1.length := by have := HSL2.out; omega
     have y2 : ¬ 9223372036854775807 < T1.length + A2.length := by have := HSL2.out; omega
     have s0 : (bstr S2).size = S2.length := bstr_size _
     have s1 : (bstr T1).size = T1.length := bstr_size _
     have r1 : (bstr A1).size = A1.length := bstr_size _
     have r2 : (bstr A2).size = A2.length := bstr_size _
     have HT2 := Lib.hid (show P1 ++ (t.al.take (j + 1)).flatMap alL = T2 ++ tosL T from by
      rw [HNE.out, ← hT2, ← hT1, HH.out.2.1]
      simp only [List.append_assoc])
     have HT2L := Lib.hid (show T2.length ≤ 1000010 + 54 * 16 + 1 + 325 * 16 + 37 from by have := HSL2.out; omega)
     have HT8 := Lib.hid h8
     clear hT1 hT2 m1 m2 l1 l2 HNE h8
     go_upto_region 12 with (refine wpList_ldR rfl alM HRG.out _ rfl rfl ?_)
     generalize hW : World.alloc wz _ = wa
     have HD := Lib.hid (show Blk wa wz.heap.size 108 #[.string (bstr U), .slice pp T.length cc] from by rw [← hW]; exact Blk.new _ _ _ rfl)
     have HKa := Lib.hid (show Keeps w3 wa from by rw [← hW]; exact HH.out.2.2.alloc _)
     have HRW := Lib.hid (show Row wa (.slice pp T.length cc) (T.map strV) from by rw [← hW]; exact HROW.out.keeps ((Keeps.refl _).alloc _))
     clear hW q3 HRG HROW
     obtain ⟨d, hdd⟩ : ∃ z, wz.heap.size = z := ⟨_, rfl⟩
     rw [hdd] at HD ⊢
     clear hdd
     have d0 : wa.cell? ⟨d, 0, none⟩ = some (.string (bstr U)) := by rw [HD.out.cell]; rfl
     have d1 : wa.cell? ⟨d, 1, none⟩ = some (.slice pp T.length cc) := by rw [HD.out.cell]; rfl
     go_cut [3] (fun sv wx => sv = .string (bstr T2) ∧ Hid (Keeps wa wx))
     case first =>
      refine wp_region_noPanic ?_
      refine wp_region_held_drew (S := fun w' => Keeps (wa) w') (by kernel_rfl) ((Keeps.refl _).drew) (fun _ => ?_)
      have hHeld : Keeps (wa) (wa).drew := (Keeps.refl _).drew
      refine tq 0 76 ?_
      refine tq 1 77 ?_
      refine tq 2 78 ?_ (hy := fun w' hSw => by
       have hSw : Keeps _ w' := hSw
       have h0 := keep1 hSw d0
       clear hSw
       go_simp
       try with_reducible rfl)
      refine tq 5 81 ?_
      refine tq 6 82 ?_ (hy := fun w' hSw => by
       have hSw : Keeps _ w' := hSw
       have h0 := keep1 hSw d1
       clear hSw
       go_simp
       try with_reducible rfl)
      refine tq 7 83 ?_
      refine tq 8 84 ?_
      refine rd1 3 (fun K hK => ?_)
      go_simp
      refine (C1.out _).mono ?_
      rintro e yA ⟨rfl, hk⟩
      have hb : Keeps _ yA := hHeld.trans hk
      have HY := Lib.hid (hHeld.trans hk)
      go_wp2_with fail
      refine bk1 hK hb ?_
      clear hK K hHeld hb hk
      intro hHeld
      refine tq 4 80 ?_
      refine rd1 9 (fun K hK => ?_)
      go_simp
      refine (C2.out _).mono ?_
      rintro e yB ⟨rfl, hk⟩
      have hb : Keeps _ yB := hHeld.trans hk
      have HY := Lib.hid (HY.out.trans (hHeld.trans hk))
      go_wp2_with fail
      refine bk1 hK hb ?_
      clear hK K hHeld hb hk
      intro hHeld
      refine tq 10 86 ?_
      refine tq 11 3 ?_
      refine wpAnyH_done (by kernel_rfl) ?_ _
      refine NoPanic.normal ?_
      go_wp2_with fail
      go_meet
      exact ⟨rfl, Lib.hid (HY.out.trans hHeld)⟩
     case rest =>
     obtain ⟨rfl, HKc⟩ := hcut
     obtain ⟨wb, rfl⟩ : ∃ z : World, z = wc := ⟨_, rfl⟩
     have HD := Lib.hid (HD.out.keeps HKc.out)
     have HKb := Lib.hid (HKa.out.trans HKc.out)
     have HRW := Lib.hid (HRW.out.keeps HKc.out)
     clear HKa HKc d0 d1 c1 c2 y1 y2 s0 s1 r1 r2 C1 C2 hwu
     go_wp2_with fail
     go_loopw [3, 8] (fun sv iv wr => ∃ (k : Nat) (S : Str), sv = .string (bstr S) ∧ iv = .int .i64 (k : Int) ∧ Hid (k ≤ T.length ∧ S = T2 ++ tosL (T.take k) ∧ Keeps wb wr)) (fun _ iv _ => T.length - (RowKit.intOf iv).toNat)
     case atStart => exact ⟨0, T2, rfl, rfl, Lib.hid ⟨Nat.zero_le _, by simp [tosL], Keeps.refl _⟩⟩
     case round =>
      obtain ⟨k, S3, rfl, rfl, HX⟩ := hrel
      obtain ⟨wy, rfl⟩ : ∃ z : World, z = wr := ⟨_, rfl⟩
      have d1 : wy.cell? ⟨d, 1, none⟩ = some (.slice pp T.length cc) := by rw [(HD.out.keeps HX.out.2.2).cell]; rfl
      have hwk : IntKind.i64.wrap ((k : Int) + 1) = (k : Int) + 1 := IntWalk.i64_in _ (by have := HT8.out; have := HX.out.1; omega)
      by_cases hkt : k < T.length
      ·have hdk : decide ((k : Int) < (T.length : Int)) = true := decide_eq_true (by omega)
       obtain ⟨bx, ox, rfl, x0⟩ := row_str (HRW.out.keeps HX.out.2.2) hkt
       have hxl := HTL.out _ (List.getElem_mem hkt)
       have C3 := Lib.hid (fun w' => rTextS_any T[k] (by omega) w')
       have l3 : (textB T[k]).length ≤ 36 := by rw [HTB.out]; omega
       have HN3 := Lib.hid (takeF_next textB hkt)
       have h3l : S3.length ≤ 2000000 := by
        rw [HX.out.2.1, List.length_append]
        have h1 := takeF_len textB 36 T (fun x hx => by rw [HTB.out]; have := HTL.out x hx; omega) k
        have h2 := HT2L.out
        have h4 := HX.out.1
        have h5 := HT8.out
        have : k * 36 ≤ 8 * 36 := Nat.mul_le_mul_right _ (by omega)
        unfold tosL
        omega
       generalize T[k] = X at *
       generalize textB X = A3 at *
       obtain ⟨T3, hT3⟩ : ∃ z, S3 ++ A3 = z := ⟨_, rfl⟩
       have c1 : bstr S3 ++ bstr A3 = bstr T3 := by rw [bstr_append, hT3]
       have y1 : ¬ 9223372036854775807 < S3.length + A3.length := by omega
       have s0 : (bstr S3).size = S3.length := bstr_size _
       have r1 : (bstr A3).size = A3.length := bstr_size _
       have HT3 := Lib.hid (show T2 ++ tosL (T.take (k + 1)) = T3 from by
        rw [← hT3, HX.out.2.1]
        unfold tosL
        rw [HN3.out, List.append_assoc])
       clear hT3 hxl l3 h3l HN3
       go_wp2_with fail
       refine (C3.out _).mono ?_
       rintro e wx ⟨rfl, hk⟩
       have HK5 := Lib.hid (HX.out.2.2.trans hk)
       clear hk
       go_wp2_with fail
       go_roundw
       case rel => exact ⟨k + 1, T3, rfl, by simp, Lib.hid ⟨by omega, HT3.out.symm, HK5.out⟩⟩
       case measure => simp only [RowKit.intOf]; omega
      ·have hdk : decide ((k : Int) < (T.length : Int)) = false := decide_eq_false (by omega)
       have HKT := Lib.hid (show k = T.length from by have := HX.out.1; omega)
       go_wp2_with fail
       go_roundw
       case rel =>
        refine ⟨j + 1, S3, rfl, by simp, Lib.hid ⟨by omega, ?_, HKb.out.trans HX.out.2.2⟩⟩
        rw [HT2.out, HX.out.2.1, HKT.out, List.take_length]
       case measure => simp only [RowKit.intOf]; omega
    ·have hd : decide ((j : Int) < (L.length : Int)) = false := decide_eq_false (by omega)
     have HJ := Lib.hid (show j = L.length from by have := HH.out.1; omega)
     have HFIN := Lib.hid (show S2 = bytesT t from by
      rw [HH.out.2.1, HJ.out, HLA.out, List.take_length, HP1.out, ← HP0.out, ← HA6.out]
      unfold bytesT
      simp only [List.append_assoc])
     have HKE := Lib.hid (HK.out.trans HH.out.2.2)
     obtain ⟨c9, w9, hcv, hrow9, hK9⟩ := str_bytes (P := Tryz.prog) wz Tryz.underlying51 Tryz.underlying5 Tryz.underlying9 (bstr S2) (by rw [bstr_size]; have := HSL2.out; unfold maxLen; omega)
     have HR9 := Lib.hid hrow9
     have HK9 := Lib.hid (HKE.out.trans hK9)
     clear hrow9 hK9
     go_wp2_with fail
     go_ret
     refine ⟨_, rfl, ?_, HK9.out⟩
     have := HR9.out
     rw [← HFIN.out]
     have e : (bstr S2).data.toList = S2 := by simp [bstr]
     rwa [e] at this
end Usr
end Go.Proofs.YtklbemkafdccgaaGreat
