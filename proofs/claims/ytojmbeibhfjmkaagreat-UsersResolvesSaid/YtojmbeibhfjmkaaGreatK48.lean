/- Several texts in one: UsRefSet, UsRefAPl, UsRRes. -/
import Derived.Test.YtojmbeibhfjmkaaGreatK47
import Derived.Test.YtojmbeibhfjmkaaGreatK24
import Derived.Test.YtojmbeibhfjmkaaGreatK45
import Derived.Test.YtojmbeibhfjmkaaGreatAdRef
import Derived.Test.YtojmbeibhfjmkaaGreatUsLower
/- ref13: SetLimit. (Printed by gen_usrset.py.) -/
namespace Go.Proofs.YtojmbeibhfjmkaaGreat
open Go.RowKit
namespace Usr
open Adr (Str)
open Mp Go.Maps
open Frm (ownsRow_keeps ownsRow_mods ownsRow_ne ownsRow_form ownsRow_base rowS_lit)
def setF (name : Str) (b c : Int) (u : UsrP) : UsrP := if u.name = name then { u with lb := b, lc := c } else u
theorem setL_not {t : TabP} {name : Str} {b c : Int} (h : name ∉ namesU t) : setL t name b c = (t, 0, 7) := by unfold setL; rw [if_pos h]
theorem setL_do {t : TabP} {name : Str} {b c : Int} (h : name ∈ namesU t) (h2 : limB b c = true) : setL t name b c = ({ t with us := t.us.map (setF name b c) }, 0, 0) := by
 unfold setL
 rw [if_neg (by simpa using h), if_neg (by simp [h2])]
 rfl
set_option maxRecDepth 100000 in
set_option maxHeartbeats 4000000 in
theorem rSetLimit_any (w : World) (uv av : Value) (t : TabP) (L : List (AlP × Value)) (h : RT w uv av t L) (hR : Right t) (name : Str) (b c : Int) : Calls Tryz.prog 72 #[rtV uv av t, .string (bstr name), .agg #[.int .i64 b, .int .i64 c]] w (RGot w (setL t name b c)) := by
 have HUL := Lib.hid hR.ul
 have HNU := Lib.hid hR.nu
 obtain ⟨pu, cu, pa, ca, rfl, rfl, -, -⟩ := h.forms
 have HR := Lib.hid h
 have CG := Lib.hid (fun w' => Quota.rGood_any b c w')
 rw [limB_eq] at CG
 have CU := Lib.hid (fun (w' : World) (k : Keeps w w') => rUser_any w' _ _ t L (h.keeps k).tab (by have := HUL.out; omega) name)
 have XN := Lib.hid (@setL_not t name b c)
 have XL := Lib.hid (@setL_lim t name b c)
 have XO := Lib.hid (@setL_do t name b c)
 obtain ⟨lb, hlb⟩ : ∃ z, limB b c = z := ⟨_, rfl⟩
 rw [hlb] at CG XL XO
 clear h hR hlb
 unfold rtV at CU ⊢
 go_enter Tryz.func72, Tryz.ntmps72
 go_upto_region 1 with fail
 generalize hW : World.alloc (World.alloc (World.alloc w _) _) _ = w1
 have HK := Lib.hid (show Keeps w w1 from by rw [← hW]; exact (((Keeps.refl _).alloc _).alloc _).alloc _)
 have HB := Lib.hid (show Blk w1 w.heap.size 31 #[.string (bstr t.dom), .int .i64 t.next, .slice pu t.us.length cu, .slice pa L.length ca] from by rw [← hW]; exact (Blk.new _ _ _ rfl).keeps (((Keeps.refl _).alloc _).alloc _))
 have HL := Lib.hid (show Blk w1 (w.heap.size + 1) 47 #[.int .i64 b, .int .i64 c] from by rw [← hW]; exact (Blk.new _ _ _ (Frm.alloc_size _ _).symm).keeps ((Keeps.refl _).alloc _))
 have HG := Lib.hid (show Blk w1 (w.heap.size + 1 + 1) 141 #[.string ⟨#[]⟩, .int .i64 0, .slice none 0 0, .slice none 0 0, .int .i64 0, .int .i64 0] from by rw [← hW]; exact Blk.new _ _ _ (by rw [Frm.alloc_size, Frm.alloc_size]))
 clear hW
 obtain ⟨q, hq⟩ : ∃ z, w.heap.size = z := ⟨_, rfl⟩
 have HQ := Lib.hid hq
 rw [hq] at HB HG HL ⊢
 clear hq
 go_wp2_with (refine wpList_ld rfl rtM HB.out _ rfl rfl ?_)
 refine (CU.out _ HK.out).mono ?_
 rintro e w3 ⟨rfl, hk⟩
 have HK := Lib.hid (HK.out.trans hk)
 have HB := Lib.hid (HB.out.keeps hk)
 have HL := Lib.hid (HL.out.keeps hk)
 have HG := Lib.hid (HG.out.keeps hk)
 clear hk CU
 rcases posL_cases (namesU t) name with ⟨hu, hp⟩ | ⟨i, hi, hni, hp⟩
 ·rw [hp]
  have HNI := Lib.hid hu
  clear hu hp
  have HX := Lib.hid (XN.out HNI.out)
  generalize setL t name b c = r at *
  go_wp2_with (first
   |refine wpList_ld rfl rtM HB.out _ rfl rfl ?_
   |(refine wpList_st (ds := #[.string (bstr t.dom), .int .i64 t.next, .slice pu t.us.length cu, .slice pa L.length ca, .int .i64 0, .int .i64 7]) rfl gotM HG.out rfl (by simp [Value.oneCell']) _ _ rfl rfl rfl rfl ?_; intro w9 hB9 hM9; have HLd := Lib.hid (ld_run (P := Tryz.prog) gotM hB9); have HM9 := Lib.hid hM9; clear hB9 hM9))
  refine bodyPost_ret (v := .agg #[.string (bstr t.dom), .int .i64 t.next, .slice pu t.us.length cu, .slice pa L.length ca, .int .i64 0, .int .i64 7]) (by simp [results, Tryz.results72, Sem.run_bind, Sem.run_pure, Result.andThen_ok, Act.put, asAddr, HLd.out]) rfl ?_
  have hk9 : Keeps w w9 := HM9.out.keeps HK.out (fun x hx => by rw [hx, ← HQ.out]; omega)
  rw [HX.out]
  exact ⟨_, _, L, rfl, HR.out.keeps hk9, hk9⟩
 have HME := Lib.hid (show name ∈ namesU t from hni ▸ List.getElem_mem hi)
 have HIX := Lib.hid (show i < t.us.length ∧ ∀ j (hj : j < t.us.length), (t.us[j].name = name ↔ j = i) from by
  have hi' : i < t.us.length := by simpa [namesU] using hi
  have hn' : t.us[i].name = name := by rw [← hni]; simp [namesU]
  refine ⟨hi', fun j hj => ⟨fun e => ?_, fun e => by subst e; exact hn'⟩⟩
  have h1 : (namesU t)[j]'(by simpa [namesU] using hj) = (namesU t)[i] := by rw [hni]; simpa [namesU] using e
  have hpw := List.pairwise_iff_getElem.1 HNU.out
  rcases Nat.lt_trichotomy j i with hl | hl | hl
  ·exact absurd h1 (hpw j i _ _ hl)
  ·exact hl
  ·exact absurd h1.symm (hpw i j _ _ hl))
 rw [hp]
 clear hp hni hi
 have hge : decide ((i : Int) < 0) = false := decide_eq_false (by omega)
 go_wp2_with (refine wpList_ld rfl limM HL.out _ rfl rfl ?_)
 refine (CG.out _).mono ?_
 rintro e w4 ⟨rfl, hk⟩
 have HK := Lib.hid (HK.out.trans hk)
 have HB := Lib.hid (HB.out.keeps hk)
 have HL := Lib.hid (HL.out.keeps hk)
 have HG := Lib.hid (HG.out.keeps hk)
 clear hk CG hge
 cases lb with
 |false =>
  have HX := Lib.hid (XL.out (decide_eq_true HME.out) (by trivial))
  generalize setL t name b c = r at *
  go_wp2_with (first
   |refine wpList_ld rfl rtM HB.out _ rfl rfl ?_
   |(refine wpList_st (ds := #[.string (bstr t.dom), .int .i64 t.next, .slice pu t.us.length cu, .slice pa L.length ca, .int .i64 0, .int .i64 1]) rfl gotM HG.out rfl (by simp [Value.oneCell']) _ _ rfl rfl rfl rfl ?_; intro w9 hB9 hM9; have HLd := Lib.hid (ld_run (P := Tryz.prog) gotM hB9); have HM9 := Lib.hid hM9; clear hB9 hM9))
  refine bodyPost_ret (v := .agg #[.string (bstr t.dom), .int .i64 t.next, .slice pu t.us.length cu, .slice pa L.length ca, .int .i64 0, .int .i64 1]) (by simp [results, Tryz.results72, Sem.run_bind, Sem.run_pure, Result.andThen_ok, Act.put, asAddr, HLd.out]) rfl ?_
  have hk9 : Keeps w w9 := HM9.out.keeps HK.out (fun x hx => by rw [hx, ← HQ.out]; omega)
  rw [HX.out]
  exact ⟨_, _, L, rfl, HR.out.keeps hk9, hk9⟩
 |true =>
 have HX := Lib.hid (XO.out HME.out (by trivial))
 generalize setL t name b c = r at *
 obtain ⟨w2, rfl⟩ : ∃ z, z = w4 := ⟨_, rfl⟩
 have HT2 := Lib.hid (HR.out.keeps HK.out)
 have HUA := Lib.hid (show ∀ wx, Keeps w2 wx → ∀ j (hj : j < t.us.length), ∃ bs o, pu = some ⟨bs, o, none⟩ ∧ wx.rangeAt bs (o + j * 4) [.int .i64 t.us[j].n, .string (bstr t.us[j].name), .int .i64 t.us[j].lb, .int .i64 t.us[j].lc] from fun wx k j hj => by
  rcases (HT2.out.keeps k).tab.us.2 with ⟨a0, cap, hv, h0, -⟩ | ⟨b', off, cap, hv, -, -, hc⟩
  ·omega
  ·simp only [Value.slice.injEq] at hv
   refine ⟨b', off, hv.1, fun m v hm => ?_⟩
   have hm4 : m < 4 := by have := (List.getElem?_eq_some_iff.1 hm).1; simpa using this
   have := hc (j * 4 + m) v (by rw [us_at hj hm4]; exact hm)
   rwa [← Nat.add_assoc] at this)
 clear XN XL XO
 go_upto_region 8 with fail
 go_loopw [8, 9] (fun ov iv wr => ∃ (j : Nat) (p : Option Addr) (co : Nat), ov = .slice p j co ∧ iv = .int .i64 (j : Int) ∧ Hid (j ≤ t.us.length ∧ wr.ownsRow w2.heap.size 53 4 (.slice p j co) j (((t.us.map (setF name b c)).take j).flatMap usC) ∧ Keeps w2 wr)) (fun _ iv _ => t.us.length - (RowKit.intOf iv).toNat)
 case atStart => exact ⟨0, none, 0, rfl, rfl, Lib.hid ⟨Nat.zero_le _, World.ownsRow_nil _ _ _ _, Keeps.refl _⟩⟩
 case round =>
  obtain ⟨j, p, co, rfl, rfl, HH⟩ := hrel
  obtain ⟨wz, rfl⟩ : ∃ z : World, z = wr := ⟨_, rfl⟩
  have q2 : wz.cell? ⟨q, 2, none⟩ = some (.slice pu t.us.length cu) := by rw [(HB.out.keeps HH.out.2.2).cell]; rfl
  have hw : IntKind.i64.wrap ((j : Int) + 1) = (j : Int) + 1 := IntWalk.i64_in _ (by have := HUL.out; have := HH.out.1; omega)
  by_cases hlt : j < t.us.length
  ·have hd : decide ((j : Int) < (t.us.length : Int)) = true := decide_eq_true (by omega)
   have hj16 : j ≤ 16 := by have := HUL.out; omega
   obtain ⟨bs, o, hpu, hrg⟩ := HUA.out wz HH.out.2.2 j hlt
   subst hpu
   have HRG := Lib.hid hrg
   have HFE0 := Lib.hid (show setF name b c t.us[j] = if j = i then ⟨t.us[j].n, t.us[j].name, b, c⟩ else ⟨t.us[j].n, t.us[j].name, t.us[j].lb, t.us[j].lc⟩ from by
    unfold setF
    by_cases e : j = i
    ·rw [if_pos ((HIX.out.2 j hlt).2 e), if_pos e]
    ·rw [if_neg (fun h => e ((HIX.out.2 j hlt).1 h)), if_neg e])
   have HNN := Lib.hid (rfl : t.us[j].n = t.us[j].n)
   clear hrg
   obtain ⟨un, hun⟩ : ∃ z, t.us[j].n = z := ⟨_, rfl⟩
   obtain ⟨nm, hnm⟩ : ∃ z, t.us[j].name = z := ⟨_, rfl⟩
   obtain ⟨ub, hub⟩ : ∃ z, t.us[j].lb = z := ⟨_, rfl⟩
   obtain ⟨uc, huc⟩ : ∃ z, t.us[j].lc = z := ⟨_, rfl⟩
   rw [hun, hnm, hub, huc] at HRG HFE0
   clear hun hnm hub huc
   go_upto_region 11 with (refine wpList_ldR rfl usrM HRG.out _ rfl rfl ?_)
   generalize hW : World.alloc wz _ = wa
   have HD := Lib.hid (show Blk wa wz.heap.size 53 #[.int .i64 un, .string (bstr nm), .int .i64 ub, .int .i64 uc] from by rw [← hW]; exact Blk.new _ _ _ rfl)
   have HKa := Lib.hid (show Keeps w2 wa from by rw [← hW]; exact HH.out.2.2.alloc _)
   have HOa := Lib.hid (show wa.ownsRow w2.heap.size 53 4 (.slice p j co) j (((t.us.map (setF name b c)).take j).flatMap usC) from by rw [← hW]; exact ownsRow_keeps HH.out.2.1 ((Keeps.refl _).alloc _))
   have HDB := Lib.hid (show w2.heap.size ≤ wz.heap.size ∧ ∀ x, (Value.slice p j co).ownBlock = some x → x < wz.heap.size from ⟨HH.out.2.2.size, fun x hx => by
    obtain ⟨cs, hh⟩ := owns_obj HH.out.2.1 hx
    exact (Array.getElem?_eq_some_iff.1 hh).1⟩)
   clear hW q2 HRG
   obtain ⟨d, hdd⟩ : ∃ z, wz.heap.size = z := ⟨_, rfl⟩
   rw [hdd] at HD HDB ⊢
   clear hdd
   by_cases hji : j = i
   ·have hq : ((j : Int) == (i : Int)) = true := by simp [hji]
    have HFE := Lib.hid (show setF name b c t.us[j] = ⟨un, nm, b, c⟩ from by rw [HFE0.out, if_pos hji])
    clear hji HFE0
    have d2 : wa.cell? ⟨d, 2, none⟩ = some (.int .i64 ub) := by rw [HD.out.cell]; rfl
    have d3 : wa.cell? ⟨d, 3, none⟩ = some (.int .i64 uc) := by rw [HD.out.cell]; rfl
    have y2 : wa.frozen? ⟨d, 2, none⟩ = false := HD.out.frozen 2
    have y3 : wa.frozen? ⟨d, 3, none⟩ = false := HD.out.frozen 3
    go_upto_region 13 with (refine wpList_ld rfl limM (HL.out.keeps HKa.out) _ rfl rfl ?_)
    generalize hW : World.setCell (World.setCell wa _ _) _ _ = wd
    have hm : Mods (· = d) wa wd := by rw [← hW]; exact ((Mods.refl (· = d) wa).setCell (p := ⟨d, 2, none⟩) (fun _ => rfl) _).setCell (p := ⟨d, 3, none⟩) (fun _ => rfl) _
    have HD := Lib.hid (show Blk wd d 53 #[.int .i64 un, .string (bstr nm), .int .i64 b, .int .i64 c] from by rw [← hW]; exact (HD.out.set_ 2 _).set_ 3 _)
    have HKd := Lib.hid (hm.keeps HKa.out (fun x hx => by rw [hx]; exact HDB.out.1))
    have HOd := Lib.hid (ownsRow_mods HOa.out hm (fun x hx e => by have := HDB.out.2 x hx; omega))
    clear hW hm d2 d3 y2 y3 HOa HKa hq
    have HEQ := Lib.hid (show setF name b c t.us[j] = ⟨un, nm, b, c⟩ from HFE.out)
    have hwz : w2.heap.size ≤ wd.heap.size := HKd.out.size
    go_wp2_with (first | refine wpList_ld rfl usrM HD.out _ rfl rfl ?_ | (at_builtin; refine wpList_apps (base := w2.heap.size) usOk (by decide) rfl _ _ rfl (.slice p j co) (.slice (some ⟨wd.heap.size, 0, none⟩) 1 1) j 1 (((t.us.map (setF name b c)).take j).flatMap usC) [.int .i64 un, .string (bstr nm), .int .i64 b, .int .i64 c] rfl rfl (ownsRow_keeps HOd.out ((Keeps.refl _).alloc _)) (rowS_lit rfl rfl rfl) (by simp [Value.oneCell']) (by omega) (by decide) (Nat.le_trans hwz ((Keeps.refl wd).alloc _).size) ?_; intro v7 w7 ho7 hg7 hf7; have HV := Lib.hid (And.intro ho7 ((HKd.out.alloc (.cells #[.int .i64 un, .string (bstr nm), .int .i64 b, .int .i64 c] 53)).grown hg7 (fun x hx => ownsRow_base HOd.out x hx))); clear ho7 hg7 hf7))
    obtain ⟨p7, c7, rfl, -, -⟩ := ownsRow_form HV.out.1
    go_wp2_with fail
    go_roundw
    case rel =>
     refine ⟨j + 1, p7, c7, rfl, by simp, Lib.hid ⟨by omega, ?_, HV.out.2⟩⟩
     have e1 : (t.us.map (setF name b c)).take (j + 1) = (t.us.map (setF name b c)).take j ++ [⟨un, nm, b, c⟩] := by
      rw [List.take_succ_eq_append_getElem (by simpa using hlt), List.getElem_map, HEQ.out]
     rw [e1, List.flatMap_append]
     exact HV.out.1
    case measure => simp only [RowKit.intOf]; omega
   ·have hq : ((j : Int) == (i : Int)) = false := by simp; omega
    have HFE := Lib.hid (show setF name b c t.us[j] = ⟨un, nm, ub, uc⟩ from by rw [HFE0.out, if_neg hji])
    clear hji HFE0
    obtain ⟨wd, rfl⟩ : ∃ z, z = wa := ⟨_, rfl⟩
    have HKd := Lib.hid HKa.out
    have HOd := Lib.hid HOa.out
    clear HKa HOa
    go_upto_region 13 with fail
    have HEQ := Lib.hid (show setF name b c t.us[j] = ⟨un, nm, ub, uc⟩ from HFE.out)
    have hwz : w2.heap.size ≤ wd.heap.size := HKd.out.size
    go_wp2_with (first | refine wpList_ld rfl usrM HD.out _ rfl rfl ?_ | (at_builtin; refine wpList_apps (base := w2.heap.size) usOk (by decide) rfl _ _ rfl (.slice p j co) (.slice (some ⟨wd.heap.size, 0, none⟩) 1 1) j 1 (((t.us.map (setF name b c)).take j).flatMap usC) [.int .i64 un, .string (bstr nm), .int .i64 ub, .int .i64 uc] rfl rfl (ownsRow_keeps HOd.out ((Keeps.refl _).alloc _)) (rowS_lit rfl rfl rfl) (by simp [Value.oneCell']) (by omega) (by decide) (Nat.le_trans hwz ((Keeps.refl wd).alloc _).size) ?_; intro v7 w7 ho7 hg7 hf7; have HV := Lib.hid (And.intro ho7 ((HKd.out.alloc (.cells #[.int .i64 un, .string (bstr nm), .int .i64 ub, .int .i64 uc] 53)).grown hg7 (fun x hx => ownsRow_base HOd.out x hx))); clear ho7 hg7 hf7))
    obtain ⟨p7, c7, rfl, -, -⟩ := ownsRow_form HV.out.1
    go_wp2_with fail
    go_roundw
    case rel =>
     refine ⟨j + 1, p7, c7, rfl, by simp, Lib.hid ⟨by omega, ?_, HV.out.2⟩⟩
     have e1 : (t.us.map (setF name b c)).take (j + 1) = (t.us.map (setF name b c)).take j ++ [⟨un, nm, ub, uc⟩] := by
      rw [List.take_succ_eq_append_getElem (by simpa using hlt), List.getElem_map, HEQ.out]
     rw [e1, List.flatMap_append]
     exact HV.out.1
    case measure => simp only [RowKit.intOf]; omega
  ·have hd : decide ((j : Int) < (t.us.length : Int)) = false := decide_eq_false (by omega)
   obtain rfl : j = t.us.length := by have := HH.out.1; omega
   have HO3 := Lib.hid (show wz.ownsRow w2.heap.size 53 4 (.slice p t.us.length co) t.us.length ((t.us.map (setF name b c)).flatMap usC) from by have := HH.out.2.1; rwa [List.take_of_length_le (by simp)] at this)
   have HB3 := Lib.hid (HB.out.keeps HH.out.2.2)
   have HG3 := Lib.hid (HG.out.keeps HH.out.2.2)
   have HT3 := Lib.hid (HT2.out.keeps HH.out.2.2)
   have HK3 := Lib.hid (HK.out.trans HH.out.2.2)
   clear HH hlt hw HB HG HT2 HL HUA HK
   have z2 : wz.frozen? ⟨q, 2, none⟩ = false := HB3.out.frozen 2
   go_upto_region 15 with fail
   have HB4 := Lib.hid (HB3.out.set_ 2 (.slice p t.us.length co))
   have hm4 : Mods (· = q) wz (wz.setCell ⟨q, 2, none⟩ (.slice p t.us.length co)) := (Mods.refl (· = q) wz).setCell (p := ⟨q, 2, none⟩) (fun _ => rfl) _
   have HT4 := Lib.hid (HT3.out.blk hm4 HB3.out (by decide))
   have HG4 := Lib.hid (HG3.out.mods hm4 (fun e => by omega))
   have HO4 := Lib.hid (ownsRow_mods HO3.out hm4 (fun x hx e => ownsRow_ne HO3.out HB3.out (by decide) (by rw [hx, e])))
   have HK4 := Lib.hid (hm4.keeps HK3.out (fun x hx => by rw [hx, ← HQ.out]; omega))
   clear q2 z2 hm4 HB3 HT3 HG3 HO3 HK3
   generalize wz.setCell _ _ = w5 at *
   have HB4 := Lib.hid (show Blk w5 q 31 #[.string (bstr t.dom), .int .i64 t.next, .slice p t.us.length co, .slice pa L.length ca] from HB4.out)
   go_wp2_with (first
    |refine wpList_ld rfl rtM HB4.out _ rfl rfl ?_
    |(refine wpList_st (ds := #[.string (bstr t.dom), .int .i64 t.next, .slice p t.us.length co, .slice pa L.length ca, .int .i64 0, .int .i64 0]) rfl gotM HG4.out rfl (by simp [Value.oneCell']) _ _ rfl rfl rfl rfl ?_; intro w9 hB9 hM9; have HLd := Lib.hid (ld_run (P := Tryz.prog) gotM hB9); have HM9 := Lib.hid hM9; clear hB9 hM9))
   refine bodyPost_ret (v := .agg #[.string (bstr t.dom), .int .i64 t.next, .slice p t.us.length co, .slice pa L.length ca, .int .i64 0, .int .i64 0]) (by simp [results, Tryz.results72, Sem.run_bind, Sem.run_pure, Result.andThen_ok, Act.put, asAddr, HLd.out]) rfl ?_
   have hk9 : Keeps w w9 := HM9.out.keeps HK4.out (fun x hx => by rw [hx, ← HQ.out]; omega)
   have ho9 : w9.ownsRow w2.heap.size 53 4 (.slice p t.us.length co) t.us.length ((t.us.map (setF name b c)).flatMap usC) := ownsRow_mods HO4.out HM9.out (fun x hx e => ownsRow_ne HO4.out HG4.out (by decide) (by rw [hx, e]))
   have hT9 := HT4.out.blk HM9.out HG4.out (by decide)
   rw [HX.out]
   refine ⟨_, _, L, rfl, ⟨?_, hT9.al, hT9.alm, hT9.pay⟩, hk9⟩
   show w9.ownsRow 0 53 4 _ (t.us.map (setF name b c)).length ((t.us.map (setF name b c)).flatMap usC)
   rw [List.length_map]
   exact ownsRow_low ho9
end Usr
end Go.Proofs.YtojmbeibhfjmkaaGreat

/- ref13.AddAlias, plain: which names are good; where a name is put. -/
namespace Go.Proofs.YtojmbeibhfjmkaaGreat
namespace Usr
open Adr (Str)
def goodI (name : Str) (tos : List Str) (i : Nat) : Bool := nameB name && decide (0 < tos.length) && (tos.take i).all nameB && decide (tos.take i).Nodup
theorem goodI_zero (name : Str) (tos : List Str) : goodI name tos 0 = (nameB name && decide (0 < tos.length)) := by simp [goodI]
theorem goodI_next {name : Str} {tos : List Str} {i : Nat} (hi : i < tos.length) (h : goodI name tos i = true) : goodI name tos (i + 1) = (nameB tos[i] && (tos.take i).all (fun s => decide (s ≠ tos[i]))) := by
 unfold goodI at h ⊢
 simp only [Bool.and_eq_true, decide_eq_true_eq] at h
 obtain ⟨⟨⟨h1, h2⟩, h3⟩, h4⟩ := h
 rw [List.take_succ_eq_append_getElem hi, List.all_append, h1, h3, decide_eq_true h2]
 simp only [Bool.true_and, List.all_cons, List.all_nil, Bool.and_true]
 congr 1
 rw [Bool.eq_iff_iff, decide_eq_true_eq, List.all_eq_true, List.nodup_append]
 constructor
 ·rintro ⟨-, -, hd⟩ x hx
  simpa using hd x hx tos[i] (by simp)
 ·intro hd
  refine ⟨h4, by simp, fun x hx y hy => ?_⟩
  simp only [List.mem_singleton] at hy
  subst hy
  simpa using hd x hx
theorem goodI_end {name : Str} {tos : List Str} {i : Nat} (hi : i ≤ tos.length) (h : (decide (i < tos.length) && goodI name tos i) = false) : goodI name tos i = (nameB name && namesB tos) := by
 by_cases hlt : i < tos.length
 ·rw [decide_eq_true hlt, Bool.true_and] at h
  rw [h]
  symm
  rw [Bool.eq_false_iff]
  intro hg
  rw [Bool.eq_false_iff] at h
  refine h ?_
  unfold namesB at hg
  simp only [Bool.and_eq_true, decide_eq_true_eq] at hg
  unfold goodI
  simp only [Bool.and_eq_true, decide_eq_true_eq]
  refine ⟨⟨⟨hg.1, by omega⟩, ?_⟩, (List.take_sublist i tos).nodup hg.2.1.2⟩
  rw [List.all_eq_true]
  exact fun x hx => List.all_eq_true.1 hg.2.1.1 x (List.mem_of_mem_take hx)
 ·obtain rfl : i = tos.length := by omega
  unfold goodI namesB
  rw [List.take_length, Bool.and_assoc, Bool.and_assoc]
  congr 1
  rw [Bool.eq_iff_iff]
  simp only [Bool.and_eq_true, decide_eq_true_eq, ne_eq]
  rw [List.length_pos_iff]
  constructor
  ·rintro ⟨a, b, c⟩; exact ⟨⟨b, c⟩, a⟩
  ·rintro ⟨⟨b, c⟩, a⟩; exact ⟨a, b, c⟩
theorem all_next {tos : List Str} {x : Str} {k : Nat} (hk : k < tos.length) : (tos.take (k + 1)).all (fun s => decide (s ≠ x)) = ((tos.take k).all (fun s => decide (s ≠ x)) && decide (tos[k] ≠ x)) := by
 rw [List.take_succ_eq_append_getElem hk, List.all_append]
 simp
theorem insA_snoc (x y : AlP) (hxy : ltS y.name x.name = false) : ∀ l : List AlP, insA x (l ++ [y]) = insA x l ++ [y]
 | [] => by simp [insA, hxy]
 |z :: r => by
  simp only [List.cons_append, insA]
  split
  ·rw [insA_snoc x y hxy r]; rfl
  ·rfl
/-- the aliases that stay, of the first k -/
def stay (A : List AlP) (name : Str) (k : Nat) : List AlP := (A.take k).filter fun a => decide (a.name ≠ name)
theorem stay_next {A : List AlP} {name : Str} {k : Nat} (hk : k < A.length) : stay A name (k + 1) = stay A name k ++ (if A[k].name = name then [] else [A[k]]) := by
 unfold stay
 rw [List.take_succ_eq_append_getElem hk, List.filter_append]
 congr 1
 by_cases h : A[k].name = name
 ·simp [h]
 ·simp [h]
/-- the list behind the first k: with the new one, or not yet -/
def outK (A : List AlP) (name : Str) (tos : List Str) (pb : Bool) (k : Nat) : List AlP := if pb then insA ⟨name, tos⟩ (stay A name k) else stay A name k
theorem outK_len {A : List AlP} {name : Str} {tos : List Str} {pb : Bool} {k : Nat} (hk : k ≤ A.length) : (outK A name tos pb k).length ≤ k + 1 := by
 have h : (stay A name k).length ≤ k := by
  unfold stay
  refine Nat.le_trans (List.length_filter_le _ _) ?_
  rw [List.length_take]; omega
 unfold outK
 split
 ·rw [(insA_perm _ _).length_eq, List.length_cons]; omega
 ·omega
/-- put or not: whether one of the first k is not below the name -/
structure PutK (A : List AlP) (name : Str) (pb : Bool) (k : Nat) : Prop where
 no : pb = false → ∀ j (hj : j < A.length), j < k → ltS A[j].name name = true
 yes : pb = true → ∃ j, ∃ (hj : j < A.length), j < k ∧ ltS A[j].name name = false
theorem stay_below {A : List AlP} {name : Str} {k : Nat} (hk : k ≤ A.length) (h : PutK A name false k) : ∀ a ∈ stay A name k, ltS a.name name = true := by
 intro a ha
 have ha := (List.mem_filter.1 ha).1
 obtain ⟨j, hj, rfl⟩ := List.getElem_of_mem ha
 rw [List.length_take] at hj
 rw [List.getElem_take]
 exact h.no rfl j (by omega) (by omega)
theorem out_push {A : List AlP} {name : Str} {tos : List Str} {k : Nat} (hk : k ≤ A.length) (h : PutK A name false k) : outK A name tos true k = outK A name tos false k ++ [⟨name, tos⟩] := by
 unfold outK
 rw [if_pos rfl, if_neg (by simp), insA_end _ _ (fun a ha => stay_below hk h a ha)]
theorem out_next {A : List AlP} {name : Str} {tos : List Str} {pb : Bool} {k : Nat} (hk : k < A.length) (h : pb = true → ltS A[k].name name = false) : outK A name tos pb (k + 1) = outK A name tos pb k ++ (if A[k].name = name then [] else [A[k]]) := by
 unfold outK
 rw [stay_next hk]
 cases pb with
 |false => rfl
 |true =>
  simp only [if_true]
  by_cases e : A[k].name = name
  ·simp [e]
  ·rw [if_neg e]
   exact insA_snoc _ _ (h rfl) _
theorem putK_up {A : List AlP} {name : Str} {k j : Nat} (hs : A.Pairwise fun a b => ltS a.name b.name = true) (hj : j < A.length) (hk : k < A.length) (hjk : j < k) (h : ltS A[j].name name = false) : ltS A[k].name name = false := by
 have h1 := List.pairwise_iff_getElem.1 hs j k hj hk hjk
 rw [Bool.eq_false_iff] at h ⊢
 intro h2
 exact h ((ltS_lt _ _).2 (List.lt_trans ((ltS_lt _ _).1 h1) ((ltS_lt _ _).1 h2)))
theorem putK_yes {A : List AlP} {name : Str} {k : Nat} (hs : A.Pairwise fun a b => ltS a.name b.name = true) (hk : k < A.length) (h : PutK A name true k) : ltS A[k].name name = false := by
 obtain ⟨j, hj, hjk, hl⟩ := h.yes rfl
 exact putK_up hs hj hk hjk hl
theorem PutK.zero (A : List AlP) (name : Str) : PutK A name false 0 := ⟨fun _ j _ h => by omega, fun h => by cases h⟩
theorem PutK.more {A : List AlP} {name : Str} {k : Nat} (h : PutK A name true k) : PutK A name true (k + 1) := by
 obtain ⟨j, hj, a, b⟩ := h.yes rfl
 exact ⟨fun h => by simp at h, fun _ => ⟨j, hj, by omega, b⟩⟩
theorem PutK.turn {A : List AlP} {name : Str} {k : Nat} (hk : k < A.length) (h : ltS A[k].name name = false) : PutK A name true (k + 1) := ⟨fun h => by simp at h, fun _ => ⟨k, hk, by omega, h⟩⟩
theorem PutK.low {A : List AlP} {name : Str} {k : Nat} (hk : k < A.length) (h : PutK A name false k) (hl : ltS A[k].name name = true) : PutK A name false (k + 1) := ⟨fun _ j hj hjk => by
 by_cases e : j = k
 ·subst e; exact hl
 ·exact h.no rfl j hj (by omega), fun h => by simp at h⟩
end Usr
end Go.Proofs.YtojmbeibhfjmkaaGreat

/- ref13: Resolve. -/
namespace Go.Proofs.YtojmbeibhfjmkaaGreat
open Go.RowKit Go.Sort
namespace Usr
open Adr (Str goodB)
open Mp Go.Maps
open Frm (ownsRow_keeps ownsRow_mods ownsRow_ne ownsRow_form ownsRow_base)
theorem intOk13 : ElemOk Tryz.prog 34 3 8 := elemOk (z := .int .i64 0) Tryz.underlying34 (by kernel_rfl) rfl
set_option maxRecDepth 100000 in
set_option maxHeartbeats 8000000 in
theorem rResolve_any (w : World) (uv av : Value) (t : TabP) (L : List (AlP × Value)) (h : RT w uv av t L) (hR : Right t) (l d : Str) (hll : l.length ≤ 1000000) (hdl : d.length ≤ 1000000) : Calls Tryz.prog 15 #[rtV uv av t, .agg #[.string (bstr l), .string (bstr d)]] w (ResDid w (resP t l d)) := by
 have HUL := Lib.hid hR.ul
 have HAL := Lib.hid hR.all
 have HLA := Lib.hid (show L.length = t.al.length from by rw [← h.alm, List.length_map])
 have HRt := Lib.hid hR
 obtain ⟨pu, cu, pa, ca, rfl, rfl, -, -⟩ := h.forms
 have HR := Lib.hid h
 have CG := Lib.hid (fun w' => Adr.rgood_any w' l d (by omega) (by omega))
 have CD := Lib.hid (fun w' => rLower_any d (by omega) w')
 have CL := Lib.hid (fun w' => rLower_any l (by omega) w')
 have CA := Lib.hid (fun (w' : World) (k : Keeps w w') x => rAlias_any w' _ _ t L (h.keeps k).tab (by have := HAL.out; have := HLA.out; omega) x)
 have HF := Lib.hid (@resP_form t l d)
 have HD := Lib.hid (@resP_dom t l d)
 have HN := Lib.hid (@resP_none t l d)
 have HO := Lib.hid (@resP_ok t l d)
 generalize resP t l d = r at *
 generalize goodB l d = gb at *
 obtain ⟨ds, hds⟩ : ∃ z, decide (lowL d = t.dom) = z := ⟨_, rfl⟩
 rw [hds] at HD HN HO
 have HTE := Lib.hid (show ((bstr (lowL d)).toList == (bstr t.dom).toList) = ds from by rw [bstr_toList, bstr_toList, ← hds, Bool.eq_iff_iff]; simp)
 clear h hR hds hll hdl
 unfold rtV at CA ⊢
 go_enter Tryz.func15, Tryz.ntmps15
 go_upto_region 1 with fail
 generalize hW : World.alloc (World.alloc w _) _ = w1
 have HK := Lib.hid (show Keeps w w1 from by rw [← hW]; exact ((Keeps.refl _).alloc _).alloc _)
 have HB := Lib.hid (show Blk w1 w.heap.size 31 #[.string (bstr t.dom), .int .i64 t.next, .slice pu t.us.length cu, .slice pa L.length ca] from by rw [← hW]; exact (Blk.new _ _ _ rfl).keeps ((Keeps.refl _).alloc _))
 have HG := Lib.hid (show Blk w1 (w.heap.size + 1) 24 #[.string (bstr l), .string (bstr d)] from by rw [← hW]; exact Blk.new _ _ _ (Frm.alloc_size _ _).symm)
 clear hW
 obtain ⟨q, hq⟩ : ∃ z, w.heap.size = z := ⟨_, rfl⟩
 have HQ := Lib.hid hq
 rw [hq] at HB HG ⊢
 clear hq
 have a0 : w1.cell? ⟨q + 1, 0, none⟩ = some (.string (bstr l)) := by rw [HG.out.cell]; rfl
 have a1 : w1.cell? ⟨q + 1, 1, none⟩ = some (.string (bstr d)) := by rw [HG.out.cell]; rfl
 go_wp2_with fail
 refine (CG.out _).mono ?_
 rintro e w2 ⟨rfl, hk⟩
 have HK := Lib.hid (HK.out.trans hk)
 have HB := Lib.hid (HB.out.keeps hk)
 have HG := Lib.hid (HG.out.keeps hk)
 clear hk CG a0 a1
 cases gb with
 |false =>
  have HRX := Lib.hid (HF.out (by trivial))
  go_wp2_with fail
  exact bodyPost_ret (v := .tuple #[.slice none 0 0, .int .i64 3]) (by simp [results, Tryz.results15, go_sem]) rfl (resDid_nil HRX.out HK.out)
 |true =>
 have a0 : w2.cell? ⟨q + 1, 0, none⟩ = some (.string (bstr l)) := by rw [HG.out.cell]; rfl
 have a1 : w2.cell? ⟨q + 1, 1, none⟩ = some (.string (bstr d)) := by rw [HG.out.cell]; rfl
 have c0 : w2.cell? ⟨q, 0, none⟩ = some (.string (bstr t.dom)) := by rw [HB.out.cell]; rfl
 go_upto_region 3 with fail
 go_cut [24] (fun bv wx => bv = .bool (!ds) ∧ Hid (Keeps w2 wx))
 case first =>
  refine wp_region_noPanic ?_
  refine wp_region_held_drew (S := fun w' => Keeps w2 w') (by kernel_rfl) ((Keeps.refl w2).drew) (fun _ => ?_)
  have hHeld : Keeps w2 (w2).drew := (Keeps.refl w2).drew
  generalize World.drew w2 = xs at *
  refine tq 0 19 ?_
  refine tq 1 20 ?_ (hy := fun w' hSw => by
   have hSw : Keeps w2 w' := hSw
   have h0 := keep1 hSw a1
   clear hSw
   go_simp
   try with_reducible rfl)
  refine tq 3 22 ?_
  refine tq 4 23 ?_ (hy := fun w' hSw => by
   have hSw : Keeps w2 w' := hSw
   have h0 := keep1 hSw c0
   clear hSw
   go_simp
   try with_reducible rfl)
  refine rd1 2 (fun K hK => ?_)
  go_simp
  refine (CD.out _).mono ?_
  rintro e yA ⟨rfl, hk⟩
  have hb := hHeld.trans hk
  clear hk
  go_wp2_with fail
  refine bkm hK hb ?_
  clear hK K hHeld
  have hHeld : Keeps w2 yA := hb
  clear hb
  refine tq 5 24 ?_
  refine wpAnyH_done (by kernel_rfl) ?_ _
  refine NoPanic.normal ?_
  go_wp2_with fail
  go_meet
  exact ⟨by rw [HTE.out], Lib.hid hHeld⟩
 case rest =>
 obtain ⟨rfl, HK3⟩ := hcut
 obtain ⟨w3, rfl⟩ : ∃ z : World, z = wc := ⟨_, rfl⟩
 have HK := Lib.hid (HK.out.trans HK3.out)
 have HB := Lib.hid (HB.out.keeps HK3.out)
 have HG := Lib.hid (HG.out.keeps HK3.out)
 clear HK3 a0 a1 c0 CD HTE
 cases ds with
 |false =>
  have HRX := Lib.hid (HD.out (by trivial) (by trivial))
  go_wp2_with fail
  exact bodyPost_ret (v := .tuple #[.slice none 0 0, .int .i64 7]) (by simp [results, Tryz.results15, go_sem]) rfl (resDid_nil HRX.out HK.out)
 |true =>
 have HN2 := Lib.hid (HN.out (by trivial) (by trivial))
 have HO2 := Lib.hid (HO.out (by trivial) (by trivial))
 clear HN HO HF HD
 have a0 : w3.cell? ⟨q + 1, 0, none⟩ = some (.string (bstr l)) := by rw [HG.out.cell]; rfl
 go_wp2_with fail
 refine (CL.out _).mono ?_
 rintro e w4 ⟨rfl, hk⟩
 have HK := Lib.hid (HK.out.trans hk)
 have HB := Lib.hid (HB.out.keeps hk)
 clear hk CL a0 HG
 generalize lowL l = s at *
 go_upto_region 6 with fail
 obtain ⟨w5, hw5⟩ : ∃ z, w4.alloc (.cells #[.string (bstr s)] 9) = z := ⟨_, rfl⟩
 have HS := Lib.hid (show Own w5 w4.heap.size 9 (.slice (some ⟨w4.heap.size, 0, none⟩) 1 1) ([s].map strV) from by rw [← hw5]; exact Frm.own_lit rfl rfl (Nat.le_refl _) (by show (1 : Nat) ≤ _; decide))
 have HK5 := Lib.hid (show Keeps w4 w5 from by rw [← hw5]; exact (Keeps.refl _).alloc _)
 rw [hw5]
 clear hw5
 have hw4 : w.heap.size ≤ w4.heap.size := HK.out.size
 have HT4 := Lib.hid (HR.out.keeps HK.out)
 go_upto_region 7 with fail
 go_loopw [6, 7] (fun nv iv wr => ∃ (N : List Str) (i : Nat) (p : Option Addr) (c : Nat), nv = .slice p N.length c ∧ iv = .int .i64 (i : Int) ∧ Hid (i ≤ N.length ∧ NmsAt t s N i ∧ Own wr w4.heap.size 9 (.slice p N.length c) (N.map strV) ∧ Keeps w4 wr)) (fun _ iv _ => 130 - (RowKit.intOf iv).toNat)
 case atStart => exact ⟨[s], 0, _, _, rfl, rfl, Lib.hid ⟨Nat.zero_le _, NmsAt.start t s, HS.out, HK5.out⟩⟩
 case round =>
  obtain ⟨N, i, p, c, rfl, rfl, HH⟩ := hrel
  obtain ⟨wz, rfl⟩ : ∃ z : World, z = wr := ⟨_, rfl⟩
  clear HS HK5
  have hN := HH.out.2.1.len HRt.out
  have HNL := Lib.hid hN
  have hw : IntKind.i64.wrap ((i : Int) + 1) = (i : Int) + 1 := IntWalk.i64_in _ (by have := HH.out.1; omega)
  by_cases hlt : i < N.length
  ·have hd : decide ((i : Int) < (N.length : Int)) = true := decide_eq_true (by omega)
   obtain ⟨g, c', hv, -⟩ := HH.out.2.2.1.form (by simp; omega)
   simp only [Value.slice.injEq, List.length_map] at hv
   obtain ⟨rfl, -, rfl⟩ := hv
   have n0 : wz.cell? ⟨g, i, none⟩ = some (.string (bstr N[i])) := HH.out.2.2.1.cellAt i _ (by simp [hlt, strV])
   have q0 : wz.cell? ⟨q, 0, none⟩ = some (.string (bstr t.dom)) := by rw [(HB.out.keeps HH.out.2.2.2).cell]; rfl
   have q1 : wz.cell? ⟨q, 1, none⟩ = some (.int .i64 t.next) := by rw [(HB.out.keeps HH.out.2.2.2).cell]; rfl
   have q2 : wz.cell? ⟨q, 2, none⟩ = some (.slice pu t.us.length cu) := by rw [(HB.out.keeps HH.out.2.2.2).cell]; rfl
   have q3 : wz.cell? ⟨q, 3, none⟩ = some (.slice pa L.length ca) := by rw [(HB.out.keeps HH.out.2.2.2).cell]; rfl
   obtain ⟨X, hX⟩ : ∃ z, N[i] = z := ⟨_, rfl⟩
   have HX := Lib.hid hX
   rw [hX] at n0
   clear hX hN
   have CX := Lib.hid (fun w' (k : Keeps wz w') => CA.out w' ((HK.out.trans HH.out.2.2.2).trans k) X)
   go_upto_region 9 with fail
   go_cut [8] (fun v wx => v = .int .i64 (posL (namesA t) X) ∧ Hid (Keeps wz wx))
   case first =>
    refine wp_region_noPanic ?_
    refine wp_region_held_drew (S := fun w' => Keeps (wz) w') (by kernel_rfl) ((Keeps.refl _).drew) (fun _ => ?_)
    have hHeld : Keeps (wz) (wz).drew := (Keeps.refl _).drew
    refine tq 0 35 ?_ (hy := fun w' hSw => by
     have hSw : Keeps _ w' := hSw
     have h0 := keep1 hSw q0
     have h1 := keep1 hSw q1
     have h2 := keep1 hSw q2
     have h3 := keep1 hSw q3
     clear hSw
     go_simp
     try with_reducible rfl)
    refine tq 1 36 ?_
    refine tq 2 37 ?_
    refine tq 3 38 ?_
    refine tq 4 39 ?_ (hy := fun w' hSw => by
     have hSw : Keeps _ w' := hSw
     have h0 := keep1 hSw n0
     clear hSw
     go_simp
     try with_reducible rfl)
    refine rd1 5 (fun K hK => ?_)
    go_simp
    refine (CX.out _ hHeld).mono ?_
    rintro e yA ⟨rfl, hk⟩
    have hb : Keeps _ yA := hHeld.trans hk
    have HY := Lib.hid (hHeld.trans hk)
    go_wp2_with fail
    refine bk1 hK hb ?_
    clear hK K hHeld hb hk
    intro hHeld
    refine tq 6 8 ?_
    refine wpAnyH_done (by kernel_rfl) ?_ _
    refine NoPanic.normal ?_
    go_wp2_with fail
    go_meet
    exact ⟨rfl, Lib.hid (HY.out.trans hHeld)⟩
   case rest =>
   obtain ⟨rfl, HKc⟩ := hcut
   obtain ⟨wy, rfl⟩ : ∃ z : World, z = wc := ⟨_, rfl⟩
   have HKy := Lib.hid (HH.out.2.2.2.trans HKc.out)
   have HOy := Lib.hid (HH.out.2.2.1.keeps HKc.out)
   clear HKc CX n0 q0 q1 q2 q3
   rcases posL_cases (namesA t) X with ⟨hu, hp⟩ | ⟨k, hi, hni, hp⟩
   ·rw [hp]
    have HNX := Lib.hid (HH.out.2.1.none hlt (by rw [HX.out]; exact hu))
    clear hp hu
    go_wp2_with fail
    go_roundw
    case rel => exact ⟨N, i + 1, _, _, rfl, by simp, Lib.hid ⟨by omega, HNX.out, HOy.out, HKy.out⟩⟩
    case measure => have := HNL.out; simp only [RowKit.intOf]; omega
   ·rw [hp]
    have hkl : k < L.length := by have := HLA.out; have h1 : (namesA t).length = t.al.length := (by simp [namesA]); omega
    have hTo : L[k].1.tos = tosOf t N[i] := by
     have e1 : L[k].1 = t.al[k]'(by have := HLA.out; omega) := by simp [← HT4.out.alm]
     have e2 : (t.al[k]'(by have := HLA.out; omega)).name = N[i] := (show _ = (namesA t)[k] from by simp [namesA]).trans (hni.trans HX.out.symm)
     rw [e1, ← e2, tosOf_some HRt.out.na (List.getElem_mem _)]
    obtain ⟨ba, oa, pT, cT, hpa, -, hcT, hrT⟩ := (show AlsR w4 (.slice pa L.length ca) L from ⟨HT4.out.tab.al, HT4.out.tab.pay⟩).one hkl
    subst hpa
    rw [hTo] at hcT hrT
    have HRT := Lib.hid hrT
    have hcT := keep1 HKy.out hcT
    have HIN := Lib.hid (HH.out.2.1.into hlt)
    have HTL := Lib.hid (show (tosOf t N[i]).length ≤ 8 from by
     rw [← hTo, show L[k].1 = t.al[k]'(by have := HLA.out; omega) from by simp [← HT4.out.alm]]
     exact (HRt.out.an _ (List.getElem_mem _)).2.2)
    generalize tosOf t N[i] = T at *
    have q3 : wy.cell? ⟨q, 3, none⟩ = some (.slice (some ⟨ba, oa, none⟩) L.length ca) := by rw [(HB.out.keeps HKy.out).cell]; rfl
    have hge : decide ((k : Int) < 0) = false := decide_eq_false (by omega)
    clear hp hni hi hrT hTo
    go_upto_region 13 with fail
    clear q3 hcT hge
    go_loopw [6, 10] (fun nv jv wr => ∃ (N' : List Str) (j : Nat) (p : Option Addr) (c : Nat), nv = .slice p N'.length c ∧ jv = .int .i64 (j : Int) ∧ Hid (j ≤ T.length ∧ NmsIn t s N' i T j ∧ Own wr w4.heap.size 9 (.slice p N'.length c) (N'.map strV) ∧ Keeps w4 wr)) (fun _ jv _ => T.length - (RowKit.intOf jv).toNat)
    case atStart => exact ⟨N, 0, _, _, rfl, rfl, Lib.hid ⟨Nat.zero_le _, HIN.out, HOy.out, HKy.out⟩⟩
    case round =>
     obtain ⟨N', j, p', c2, rfl, rfl, HJ⟩ := hrel
     obtain ⟨wx, rfl⟩ : ∃ z : World, z = wr := ⟨_, rfl⟩
     have HNL2 := Lib.hid (HJ.out.2.1.at_.len HRt.out)
     have hwj : IntKind.i64.wrap ((j : Int) + 1) = (j : Int) + 1 := IntWalk.i64_in _ (by have := HJ.out.1; have := HTL.out; omega)
     by_cases hjl : j < T.length
     ·have hd2 : decide ((j : Int) < (T.length : Int)) = true := decide_eq_true (by omega)
      obtain ⟨bT, oT, rfl, hct⟩ := row_str (HRT.out.keeps HJ.out.2.2.2) hjl
      have HCT := Lib.hid hct
      obtain ⟨Y, hY⟩ : ∃ z, T[j] = z := ⟨_, rfl⟩
      have HY0 := Lib.hid hY
      rw [hY] at HCT
      clear hY hct
      go_upto_region 17 with fail
      go_loopw [11, 12] (fun tv mv wr => ∃ (tb : Bool) (m : Nat), tv = .bool tb ∧ mv = .int .i64 (m : Int) ∧ Hid (m ≤ N'.length ∧ tb = decide (Y ∈ N'.take m) ∧ Keeps wx wr)) (fun _ mv _ => N'.length - (RowKit.intOf mv).toNat)
      case atStart => exact ⟨false, 0, rfl, rfl, Lib.hid ⟨Nat.zero_le _, by simp, Keeps.refl _⟩⟩
      case round =>
       obtain ⟨tb, m, rfl, rfl, HM⟩ := hrel
       obtain ⟨wv, rfl⟩ : ∃ z : World, z = wr := ⟨_, rfl⟩
       by_cases hml : m < N'.length
       ·have hd3 : decide ((m : Int) < (N'.length : Int)) = true := decide_eq_true (by omega)
        have hwm : IntKind.i64.wrap ((m : Int) + 1) = (m : Int) + 1 := IntWalk.i64_in _ (by have := HNL2.out; omega)
        have HTK := Lib.hid (show decide (Y ∈ N'.take (m + 1)) = (decide (Y ∈ N'.take m) || decide (N'[m] = Y)) from by
         rw [List.take_succ_eq_append_getElem hml, Bool.eq_iff_iff, decide_eq_true_eq, List.mem_append, Bool.or_eq_true, decide_eq_true_eq, decide_eq_true_eq, List.mem_singleton]
         exact or_congr Iff.rfl ⟨fun e => e.symm, fun e => e.symm⟩)
        cases tb with
        |true =>
         go_upto_region 19 with fail
         go_quiet (fail)
         go_wp2_with fail
         go_roundw
         case rel => exact ⟨true, m + 1, rfl, by simp, Lib.hid ⟨by omega, by rw [HTK.out, ← HM.out.2.1]; rfl, by have := HM.out.2.2; repeat (first | exact this | refine Keeps.drewN ?_ _ | refine Keeps.drew ?_)⟩⟩
         case measure => simp only [RowKit.intOf]; omega
        |false =>
         obtain ⟨g2, c3, hv, -⟩ := HJ.out.2.2.1.form (by simp; omega)
         simp only [Value.slice.injEq, List.length_map] at hv
         obtain ⟨rfl, -, rfl⟩ := hv
         have n0 : wv.cell? ⟨g2, m, none⟩ = some (.string (bstr N'[m])) := (HJ.out.2.2.1.keeps HM.out.2.2).cellAt m _ (by simp [hml, strV])
         have t0 := keep1 HM.out.2.2 HCT.out
         obtain ⟨Z, hZ⟩ : ∃ z, N'[m] = z := ⟨_, rfl⟩
         rw [hZ] at n0 HTK
         obtain ⟨eb, heb⟩ : ∃ z, decide (Z = Y) = z := ⟨_, rfl⟩
         rw [heb] at HTK
         have HTE := Lib.hid (show ((bstr Z).toList == (bstr Y).toList) = eb from by rw [bstr_toList, bstr_toList, ← heb, Bool.eq_iff_iff]; simp)
         clear hZ heb
         cases eb
         all_goals
          have hte := HTE.out
          go_upto_region 19 with fail
          go_quiet (fail)
          go_wp2_with fail
          go_roundw
          case rel => exact ⟨_, m + 1, rfl, by simp, Lib.hid ⟨by omega, by rw [HTK.out, ← HM.out.2.1]; rfl, by have := HM.out.2.2; repeat (first | exact this | refine Keeps.drewN ?_ _ | refine Keeps.drew ?_)⟩⟩
          case measure => simp only [RowKit.intOf]; omega
       ·have hd3 : decide ((m : Int) < (N'.length : Int)) = false := decide_eq_false (by omega)
        have HME := Lib.hid (show tb = decide (Y ∈ N') from by rw [HM.out.2.1, List.take_of_length_le (by omega)])
        have HK9 := Lib.hid (HJ.out.2.2.2.trans HM.out.2.2)
        have HO9 := Lib.hid (HJ.out.2.2.1.keeps HM.out.2.2)
        cases tb with
        |true =>
         have HNI := Lib.hid (HJ.out.2.1.there hjl (by rw [HY0.out]; exact of_decide_eq_true HME.out.symm))
         go_wp2_with fail
         go_roundw
         case rel => exact ⟨N', j + 1, _, _, rfl, by simp, Lib.hid ⟨by omega, HNI.out, HO9.out, HK9.out⟩⟩
         case measure => simp only [RowKit.intOf]; omega
        |false =>
         have HNI := Lib.hid (HJ.out.2.1.new hjl (by rw [HY0.out]; exact of_decide_eq_false HME.out.symm))
         rw [HY0.out] at HNI
         have t0 := keep1 HM.out.2.2 HCT.out
         have hwv : w4.heap.size ≤ wv.heap.size := HK9.out.size
         go_upto_region 14 with (at_builtin; refine wpList_app1 (base := w4.heap.size) strok3 rfl _ _ rfl (.slice p' N'.length c2) (.slice (some ⟨wv.heap.size, 0, none⟩) 1 1) (N'.map strV) [.string (bstr Y)] rfl rfl (HO9.out.alloc _) (row_one rfl) (by simp [Value.oneCell']) (by have := HNL2.out; simp; omega) (by omega) (Nat.le_trans hwv ((Keeps.refl wv).alloc _).size) ?_; intro v7 w7 ho7 hg7 hf7; have HV := Lib.hid (And.intro ho7 hg7); clear ho7 hg7 hf7)
         obtain ⟨p7, c7, rfl, -, -⟩ := HV.out.1.row.form
         have HK7 := Lib.hid (show Keeps w4 w7 from (HK9.out.alloc _).grown HV.out.2 (fun x hx => HO9.out.base x hx))
         go_wp2_with fail
         go_roundw
         case rel => exact ⟨N' ++ [Y], j + 1, p7, c7, by simp, by simp, Lib.hid ⟨by omega, HNI.out, by have h := HV.out.1; simp at h ⊢; exact h, HK7.out⟩⟩
         case measure => simp only [RowKit.intOf]; omega
     ·have hd2 : decide ((j : Int) < (T.length : Int)) = false := decide_eq_false (by omega)
      have HNX := Lib.hid (show NmsAt t s N' (i + 1) from by
       have hj : j = T.length := by have := HJ.out.1; omega
       have := HJ.out.2.1
       rw [hj] at this
       exact this.out)
      have HIL := Lib.hid (show i + 1 ≤ N'.length from by obtain ⟨h1, -⟩ := HJ.out.2.1.lt; omega)
      have HK9 := Lib.hid HJ.out.2.2.2
      go_wp2_with fail
      go_roundw
      case rel => exact ⟨N', i + 1, _, _, rfl, by simp, Lib.hid ⟨HIL.out, HNX.out, HJ.out.2.2.1, HK9.out⟩⟩
      case measure => have := HIL.out; have := HNL2.out; simp only [RowKit.intOf]; omega
  ·have hd : decide ((i : Int) < (N.length : Int)) = false := decide_eq_false (by omega)
   have HNA := Lib.hid HH.out.2.1
   have HNE := Lib.hid (show N.length ≤ i by omega)
   have HNO := Lib.hid HH.out.2.2.1
   have HKz := Lib.hid HH.out.2.2.2
   have HBz := Lib.hid (HB.out.keeps HH.out.2.2.2)
   have HTz := Lib.hid (HT4.out.keeps HH.out.2.2.2)
   have HUS := Lib.hid (show ∀ wx, Keeps wz wx → ∀ u (hu : u < t.us.length), ∃ bu ou, pu = some ⟨bu, ou, none⟩ ∧ wx.cell? ⟨bu, ou + u * 4 + 1, none⟩ = some (.string (bstr t.us[u].name)) ∧ wx.cell? ⟨bu, ou + u * 4, none⟩ = some (.int .i64 t.us[u].n) from fun wx k u hu => by
    rcases (HTz.out.keeps k).tab.us.2 with ⟨a0, cap, hv, h0, -⟩ | ⟨b', off, cap, hv, -, -, hc⟩
    ·omega
    ·simp only [Value.slice.injEq] at hv
     exact ⟨b', off, hv.1, hc (u * 4 + 1) _ (by rw [us_at hu (show 1 < 4 by decide)]; rfl), hc (u * 4 + 0) _ (by rw [us_at hu (show 0 < 4 by decide)]; rfl)⟩)
   clear HH hw
   go_upto_region 24 with fail
   clear hlt hN
   go_loopw [13, 14] (fun ov uv wr => ∃ (u : Nat) (p : Option Addr) (c : Nat), ov = .slice p (outN t N u).length c ∧ uv = .int .i64 (u : Int) ∧ Hid (u ≤ t.us.length ∧ Own wr wz.heap.size 3 (.slice p (outN t N u).length c) ((outN t N u).map encZ) ∧ Keeps wz wr)) (fun _ uv _ => t.us.length - (RowKit.intOf uv).toNat)
   case atStart => exact ⟨0, none, 0, by simp [outN], rfl, Lib.hid ⟨Nat.zero_le _, by simp only [outN, List.take_zero, List.filter_nil, List.map_nil, List.length_nil]; exact Own.nil _ _ _, Keeps.refl _⟩⟩
   case round =>
    obtain ⟨u, po, co, rfl, rfl, HU⟩ := hrel
    obtain ⟨wx, rfl⟩ : ∃ z : World, z = wr := ⟨_, rfl⟩
    have q2 : wx.cell? ⟨q, 2, none⟩ = some (.slice pu t.us.length cu) := by rw [(HBz.out.keeps HU.out.2.2).cell]; rfl
    have hwu : IntKind.i64.wrap ((u : Int) + 1) = (u : Int) + 1 := IntWalk.i64_in _ (by have := HU.out.1; have := HUL.out; omega)
    by_cases hul : u < t.us.length
    ·have hd4 : decide ((u : Int) < (t.us.length : Int)) = true := decide_eq_true (by omega)
     have HUL2 := Lib.hid hul
     obtain ⟨bu, ou, hpu, hc1, hc0⟩ := HUS.out wz (Keeps.refl _) u hul
     subst hpu
     obtain ⟨nm, hnm⟩ : ∃ z, t.us[u].name = z := ⟨_, rfl⟩
     obtain ⟨un, hun⟩ : ∃ z, t.us[u].n = z := ⟨_, rfl⟩
     have HNX := Lib.hid (show outN t N (u + 1) = outN t N u ++ (if nm ∈ N then [un] else []) from by subst hnm; subst hun; exact outN_next hul)
     have HC := Lib.hid (show wz.cell? ⟨bu, ou + u * 4 + 1, none⟩ = some (.string (bstr nm)) ∧ wz.cell? ⟨bu, ou + u * 4, none⟩ = some (.int .i64 un) from by subst hnm; subst hun; exact ⟨hc1, hc0⟩)
     have HOB := Lib.hid (show (outN t N u).length ≤ 16 from by unfold outN; rw [List.length_map]; exact Nat.le_trans (List.length_filter_le _ _) (by rw [List.length_take]; have := HUL.out; omega))
     have hub := HU.out.1
     have HUW := Lib.hid HU.out
     generalize outN t N u = O at *
     clear hc1 hc0 hnm hun HU hub
     go_upto_region 27 with fail
     clear q2
     go_loopw [13, 15] (fun ov kv wr => ∃ (k : Nat) (OL : List Int) (p : Option Addr) (c : Nat), ov = .slice p OL.length c ∧ kv = .int .i64 (k : Int) ∧ Hid (k ≤ N.length ∧ OL = O ++ (if nm ∈ N.take k then [un] else []) ∧ Own wr wz.heap.size 3 (.slice p OL.length c) (OL.map encZ) ∧ Keeps wz wr)) (fun _ kv _ => N.length - (RowKit.intOf kv).toNat)
     case atStart => exact ⟨0, O, po, co, rfl, rfl, Lib.hid ⟨Nat.zero_le _, by simp, HUW.out.2.1, HUW.out.2.2⟩⟩
     case round =>
      obtain ⟨k, OL, p1, c1, rfl, rfl, HV⟩ := hrel
      obtain ⟨wv, rfl⟩ : ∃ z : World, z = wr := ⟨_, rfl⟩
      have hwk : IntKind.i64.wrap ((k : Int) + 1) = (k : Int) + 1 := IntWalk.i64_in _ (by have := HV.out.1; have := HNL.out; omega)
      by_cases hkl : k < N.length
      ·have hd5 : decide ((k : Int) < (N.length : Int)) = true := decide_eq_true (by omega)
       obtain ⟨g, c', hv, -⟩ := HNO.out.form (by simp; omega)
       simp only [Value.slice.injEq, List.length_map] at hv
       obtain ⟨rfl, -, rfl⟩ := hv
       have n0 : wv.cell? ⟨g, k, none⟩ = some (.string (bstr N[k])) := (HNO.out.keeps HV.out.2.2.2).cellAt k _ (by simp [hkl, strV])
       have q2 : wv.cell? ⟨q, 2, none⟩ = some (.slice (some ⟨bu, ou, none⟩) t.us.length cu) := by rw [(HBz.out.keeps HV.out.2.2.2).cell]; rfl
       have HCC := Lib.hid (show wv.cell? ⟨bu, ou + u * 4 + 1, none⟩ = some (.string (bstr nm)) ∧ wv.cell? ⟨bu, ou + u * 4, none⟩ = some (.int .i64 un) from ⟨keep1 HV.out.2.2.2 HC.out.1, keep1 HV.out.2.2.2 HC.out.2⟩)
       have HTK := Lib.hid (show nm ∈ N.take (k + 1) ↔ nm ∈ N.take k ∨ nm = N[k] from by rw [List.take_succ_eq_append_getElem hkl, List.mem_append, List.mem_singleton])
       have HFR := Lib.hid (show N[k] ∉ N.take k from fun hm => by
        obtain ⟨j, hj, e⟩ := List.getElem_of_mem hm
        rw [List.length_take] at hj
        rw [List.getElem_take] at e
        exact List.pairwise_iff_getElem.1 HNA.out.nd j k _ _ (by omega) e)
       have c1' := HCC.out.1
       obtain ⟨Z, hZ⟩ : ∃ z, N[k] = z := ⟨_, rfl⟩
       rw [hZ] at n0 HTK HFR
       obtain ⟨eb, heb⟩ : ∃ z, decide (Z = nm) = z := ⟨_, rfl⟩
       have HEB := Lib.hid heb
       have hte : ((bstr Z).toList == (bstr nm).toList) = eb := by rw [bstr_toList, bstr_toList, ← heb, Bool.eq_iff_iff]; simp
       clear hZ heb
       go_upto_region 29 with fail
       go_cut [105] (fun v wy => v = .bool eb ∧ Hid (Keeps wv wy))
       case first =>
        go_quiet (fail)
        go_wp2_with fail
        go_meet
        exact ⟨rfl, Lib.hid (by repeat (first | exact Keeps.refl _ | refine Keeps.drewN ?_ _ | refine Keeps.drew ?_))⟩
       case rest =>
       obtain ⟨rfl, HKc⟩ := hcut
       obtain ⟨wy, rfl⟩ : ∃ z : World, z = wc := ⟨_, rfl⟩
       have HKy := Lib.hid (HV.out.2.2.2.trans HKc.out)
       have HOy := Lib.hid (HV.out.2.2.1.keeps HKc.out)
       have HL1 := Lib.hid (show OL.length ≤ 17 from by
        rw [HV.out.2.1, List.length_append]
        have := HOB.out
        split <;> simp <;> omega)
       have x0 := keep1 HKc.out HCC.out.2
       have x2 := keep1 HKc.out q2
       clear n0 q2 c1' hte HKc
       cases eb with
       |false =>
        have HOE := Lib.hid (show OL = O ++ (if nm ∈ N.take (k + 1) then [un] else []) from by
         rw [HV.out.2.1]
         congr 1
         have hne : ¬ nm = Z := fun e => of_decide_eq_false HEB.out e.symm
         by_cases hm : nm ∈ N.take k
         ·rw [if_pos hm, if_pos (HTK.out.2 (.inl hm))]
         ·rw [if_neg hm, if_neg (fun h => (HTK.out.1 h).elim hm hne)])
        clear x0 x2
        go_wp2_with fail
        go_roundw
        case rel => exact ⟨k + 1, OL, p1, c1, rfl, by simp, Lib.hid ⟨by omega, HOE.out, HOy.out, HKy.out⟩⟩
        case measure => simp only [RowKit.intOf]; omega
       |true =>
        have HOE := Lib.hid (show OL ++ [un] = O ++ (if nm ∈ N.take (k + 1) then [un] else []) from by
         have he : Z = nm := of_decide_eq_true HEB.out
         have hm : nm ∉ N.take k := he ▸ HFR.out
         rw [HV.out.2.1, if_neg hm, if_pos (HTK.out.2 (.inr he.symm)), List.append_nil])
        have hwy : wz.heap.size ≤ wy.heap.size := HKy.out.size
        go_upto_region 28 with (at_builtin; refine wpList_app1 (base := wz.heap.size) intOk13 rfl _ _ rfl (.slice p1 OL.length c1) (.slice (some ⟨wy.heap.size, 0, none⟩) 1 1) (OL.map encZ) [.int .i64 un] rfl rfl (HOy.out.alloc _) (row_one rfl) (by simp [Value.oneCell']) (by have := HL1.out; simp; omega) (by omega) (Nat.le_trans hwy ((Keeps.refl wy).alloc _).size) ?_; intro v7 w7 ho7 hg7 hf7; have HVV := Lib.hid (And.intro ho7 ((HKy.out.alloc (.cells #[.int .i64 un] 3)).grown hg7 (fun x hx => HOy.out.base x hx))); clear ho7 hg7 hf7)
        obtain ⟨p7, c7, rfl, -, -⟩ := HVV.out.1.row.form
        clear x0 x2
        go_wp2_with fail
        go_roundw
        case rel => exact ⟨k + 1, OL ++ [un], p7, c7, by simp, by simp, Lib.hid ⟨by omega, HOE.out, by have h := HVV.out.1; simp at h ⊢; exact h, HVV.out.2⟩⟩
        case measure => simp only [RowKit.intOf]; omega
      ·have hd5 : decide ((k : Int) < (N.length : Int)) = false := decide_eq_false (by omega)
       have HOE := Lib.hid (show OL = outN t N (u + 1) from by
        rw [HNX.out, HV.out.2.1, List.take_of_length_le (by omega)])
       have HO9 := Lib.hid HV.out.2.2
       rw [HOE.out] at HO9
       rw [HOE.out]
       clear HV
       go_wp2_with fail
       go_roundw
       case rel => exact ⟨u + 1, p1, c1, rfl, by simp, Lib.hid ⟨HUL2.out, HO9.out.1, HO9.out.2⟩⟩
       case measure => have := HUL2.out; simp only [RowKit.intOf]; omega
    ·have hd4 : decide ((u : Int) < (t.us.length : Int)) = false := decide_eq_false (by omega)
     have hue : u = t.us.length := by have := HU.out.1; omega
     have HOE := Lib.hid (show outN t N u = resN t s from by rw [hue]; exact outN_res HNA.out HNE.out)
     have HO9 := Lib.hid HU.out.2
     rw [HOE.out] at HO9
     rw [HOE.out]
     have HKF := Lib.hid (HK.out.trans (HKz.out.trans HU.out.2.2))
     have hbw : w.heap.size ≤ wz.heap.size := (HK.out.trans HKz.out).size
     clear HU hue
     by_cases h0 : (resN t s).length = 0
     ·have e0 : (((resN t s).length : Int) == 0) = true := by simp [h0]
      have HRX := Lib.hid (HN2.out (List.eq_nil_of_length_eq_zero h0))
      clear h0
      generalize (resN t s).length = ln at *
      go_wp2_with fail
      exact bodyPost_ret (v := .tuple #[.slice none 0 0, .int .i64 7]) (by simp [results, Tryz.results15, go_sem]) rfl (resDid_nil HRX.out HKF.out)
     ·have e0 : (((resN t s).length : Int) == 0) = false := beq_eq_false_iff_ne.2 (by omega)
      have HRX := Lib.hid (HO2.out (fun e => h0 (by rw [e]; rfl)))
      have HOF := Lib.hid (show Own wx w.heap.size 3 (.slice po (resN t s).length co) ((resN t s).map encZ) from HO9.out.1.lower hbw)
      clear h0
      go_wp2_with fail
      refine bodyPost_ret (v := .tuple #[.slice po (resN t s).length co, .int .i64 0]) (by simp [results, Tryz.results15, go_sem]) rfl ?_
      rw [HRX.out]
      exact ⟨_, rfl, HOF.out, HKF.out⟩
end Usr
end Go.Proofs.YtojmbeibhfjmkaaGreat
