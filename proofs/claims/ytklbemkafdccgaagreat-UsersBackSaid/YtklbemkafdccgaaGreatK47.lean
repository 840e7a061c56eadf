/- Several texts in one: UsRefSet, UsRefAPl. -/
import Derived.Test.YtklbemkafdccgaaGreatK46
import Derived.Test.YtklbemkafdccgaaGreatK24
import Derived.Test.YtklbemkafdccgaaGreatK44
/- ref13: SetLimit. (Printed by gen_usrset.py.) -/
namespace Go.Proofs.YtklbemkafdccgaaGreat
open Go.RowKit
namespace Usr
open Adr (Str)
open Mp Go.Maps
open Frm (ownsRow_keeps ownsRow_mods ownsRow_ne ownsRow_form ownsRow_base rowS_lit)
def setF (name : Str) (b c : Int) (u : UsrP) : UsrP := if u.name = name then { u with lb := b, lc := c } else u
theorem setL_not {t : TabP} {name : Str} {b c : Int} (h : name ∉ namesU t) : setL t name b c = (t, 0, 7) := by unfold setL; rw [if_pos h]
theorem setL_do {t : TabP} {name : Str} {b c : Int} (h : name ∈ namesU t) (h2 : limB b c = true) : setL t name b c = ({ t with us := t.us.map (setF name b c) }, 0, 0) := by
 unfold setL
 rw [if_neg (by simpa using h), if_neg (by simp [h2])]
 rfl
set_option maxRecDepth 100000 in
set_option maxHeartbeats 4000000 in
theorem rSetLimit_any (w : World) (uv av : Value) (t : TabP) (L : List (AlP × Value)) (h : RT w uv av t L) (hR : Right t) (name : Str) (b c : Int) : Calls Tryz.prog 39 #[rtV uv av t, .string (bstr name), .agg #[.int .i64 b, .int .i64 c]] w (RGot w (setL t name b c)) := by
 have HUL := Lib.hid hR.ul
 have HNU := Lib.hid hR.nu
 obtain ⟨pu, cu, pa, ca, rfl, rfl, -, -⟩ := h.forms
 have HR := Lib.hid h
 have CG := Lib.hid (fun w' => Quota.rGood_any b c w')
 rw [limB_eq] at CG
 have CU := Lib.hid (fun (w' : World) (k : Keeps w w') => rUser_any w' _ _ t L (h.keeps k).tab (by have := HUL.out; omega) name)
 have XN := Lib.hid (@setL_not t name b c)
 have XL := Lib.hid (@setL_lim t name b c)
 have XO := Lib.hid (@setL_do t name b c)
 obtain ⟨lb, hlb⟩ : ∃ z, limB b c = z := ⟨_, rfl⟩
 rw [hlb] at CG XL XO
 clear h hR hlb
 unfold rtV at CU ⊢
 go_enter Tryz.func39, Tryz.ntmps39
 go_upto_region 1 with fail
 generalize hW : World.alloc (World.alloc (World.alloc w _) _) _ = w1
 have HK := Lib.hid (show Keeps w w1 from by rw [← hW]; exact (((Keeps.refl _).alloc _).alloc _).alloc _)
 have HB := Lib.hid (show Blk w1 w.heap.size 32 #[.string (bstr t.dom), .int .i64 t.next, .slice pu t.us.length cu, .slice pa L.length ca] from by rw [← hW]; exact (Blk.new _ _ _ rfl).keeps (((Keeps.refl _).alloc _).alloc _))
 have HL := Lib.hid (show Blk w1 (w.heap.size + 1) 36 #[.int .i64 b, .int .i64 c] from by rw [← hW]; exact (Blk.new _ _ _ (Frm.alloc_size _ _).symm).keeps ((Keeps.refl _).alloc _))
 have HG := Lib.hid (show Blk w1 (w.heap.size + 1 + 1) 86 #[.string ⟨#[]⟩, .int .i64 0, .slice none 0 0, .slice none 0 0, .int .i64 0, .int .i64 0] from by rw [← hW]; exact Blk.new _ _ _ (by rw [Frm.alloc_size, Frm.alloc_size]))
 clear hW
 obtain ⟨q, hq⟩ : ∃ z, w.heap.size = z := ⟨_, rfl⟩
 have HQ := Lib.hid hq
 rw [hq] at HB HG HL ⊢
 clear hq
 go_wp2_with (refine wpList_ld rfl rtM HB.out _ rfl rfl ?_)
 refine (CU.out _ HK.out).mono ?_
 rintro e w3 ⟨rfl, hk⟩
 have HK := Lib.hid (HK.out.trans hk)
 have HB := Lib.hid (HB.out.keeps hk)
 have HL := Lib.hid (HL.out.keeps hk)
 have HG := Lib.hid (HG.out.keeps hk)
 clear hk CU
 rcases posL_cases (namesU t) name with ⟨hu, hp⟩ | ⟨i, hi, hni, hp⟩
 ·rw [hp]
  have HNI := Lib.hid hu
  clear hu hp
  have HX := Lib.hid (XN.out HNI.out)
  generalize setL t name b c = r at *
  go_wp2_with (first
   |refine wpList_ld rfl rtM HB.out _ rfl rfl ?_
   |(refine wpList_st (ds := #[.string (bstr t.dom), .int .i64 t.next, .slice pu t.us.length cu, .slice pa L.length ca, .int .i64 0, .int .i64 7]) rfl gotM HG.out rfl (by simp [Value.oneCell']) _ _ rfl rfl rfl rfl ?_; intro w9 hB9 hM9; have HLd := Lib.hid (ld_run (P := Tryz.prog) gotM hB9); have HM9 := Lib.hid hM9; clear hB9 hM9))
  refine bodyPost_ret (v := .agg #[.string (bstr t.dom), .int .i64 t.next, .slice pu t.us.length cu, .slice pa L.length ca, .int .i64 0, .int .i64 7]) (by simp [results, Tryz.results39, Sem.run_bind, Sem.run_pure, Result.andThen_ok, Act.put, asAddr, HLd.out]) rfl ?_
  have hk9 : Keeps w w9 := HM9.out.keeps HK.out (fun x hx => by rw [hx, ← HQ.out]; omega)
  rw [HX.out]
  exact ⟨_, _, L, rfl, HR.out.keeps hk9, hk9⟩
 have HME := Lib.hid (show name ∈ namesU t from hni ▸ List.getElem_mem hi)
 have HIX := Lib.hid (show i < t.us.length ∧ ∀ j (hj : j < t.us.length), (t.us[j].name = name ↔ j = i) from by
  have hi' : i < t.us.length := by simpa [namesU] using hi
  have hn' : t.us[i].name = name := by rw [← hni]; simp [namesU]
  refine ⟨hi', fun j hj => ⟨fun e => ?_, fun e => by subst e; exact hn'⟩⟩
  have h1 : (namesU t)[j]'(by simpa [namesU] using hj) = (namesU t)[i] := by rw [hni]; simpa [namesU] using e
  have hpw := List.pairwise_iff_getElem.1 HNU.out
  rcases Nat.lt_trichotomy j i with hl | hl | hl
  ·exact absurd h1 (hpw j i _ _ hl)
  ·exact hl
  ·exact absurd h1.symm (hpw i j _ _ hl))
 rw [hp]
 clear hp hni hi
 have hge : decide ((i : Int) < 0) = false := decide_eq_false (by omega)
 go_wp2_with (refine wpList_ld rfl limM HL.out _ rfl rfl ?_)
 refine (CG.out _).mono ?_
 rintro e w4 ⟨rfl, hk⟩
 have HK := Lib.hid (HK.out.trans hk)
 have HB := Lib.hid (HB.out.keeps hk)
 have HL := Lib.hid (HL.out.keeps hk)
 have HG := Lib.hid (HG.out.keeps hk)
 clear hk CG hge
 cases lb with
 |false =>
  have HX := Lib.hid (XL.out (decide_eq_true HME.out) (by trivial))
  generalize setL t name b c = r at *
  go_wp2_with (first
   |refine wpList_ld rfl rtM HB.out _ rfl rfl ?_
   |(refine wpList_st (ds := #[.string (bstr t.dom), .int .i64 t.next, .slice pu t.us.length cu, .slice pa L.length ca, .int .i64 0, .int .i64 1]) rfl gotM HG.out rfl (by simp [Value.oneCell']) _ _ rfl rfl rfl rfl ?_; intro w9 hB9 hM9; have HLd := Lib.hid (ld_run (P := Tryz.prog) gotM hB9); have HM9 := Lib.hid hM9; clear hB9 hM9))
  refine bodyPost_ret (v := .agg #[.string (bstr t.dom), .int .i64 t.next, .slice pu t.us.length cu, .slice pa L.length ca, .int .i64 0, .int .i64 1]) (by simp [results, Tryz.results39, Sem.run_bind, Sem.run_pure, Result.andThen_ok, Act.put, asAddr, HLd.out]) rfl ?_
  have hk9 : Keeps w w9 := HM9.out.keeps HK.out (fun x hx => by rw [hx, ← HQ.out]; omega)
  rw [HX.out]
  exact ⟨_, _, L, rfl, HR.out.keeps hk9, hk9⟩
 |true =>
 have HX := Lib.hid (XO.out HME.out (by trivial))
 generalize setL t name b c = r at *
 obtain ⟨w2, rfl⟩ : ∃ z, z = w4 := ⟨_, rfl⟩
 have HT2 := Lib.hid (HR.out.keeps HK.out)
 have HUA := Lib.hid (show ∀ wx, Keeps w2 wx → ∀ j (hj : j < t.us.length), ∃ bs o, pu = some ⟨bs, o, none⟩ ∧ wx.rangeAt bs (o + j * 4) [.int .i64 t.us[j].n, .string (bstr t.us[j].name), .int .i64 t.us[j].lb, .int .i64 t.us[j].lc] from fun wx k j hj => by
  rcases (HT2.out.keeps k).tab.us.2 with ⟨a0, cap, hv, h0, -⟩ | ⟨b', off, cap, hv, -, -, hc⟩
  ·omega
  ·simp only [Value.slice.injEq] at hv
   refine ⟨b', off, hv.1, fun m v hm => ?_⟩
   have hm4 : m < 4 := by have := (List.getElem?_eq_some_iff.1 hm).1; simpa using this
   have := hc (j * 4 + m) v (by rw [us_at hj hm4]; exact hm)
   rwa [← Nat.add_assoc] at this)
 clear XN XL XO
 go_upto_region 8 with fail
 go_loopw [8, 9] (fun ov iv wr => ∃ (j : Nat) (p : Option Addr) (co : Nat), ov = .slice p j co ∧ iv = .int .i64 (j : Int) ∧ Hid (j ≤ t.us.length ∧ wr.ownsRow w2.heap.size 42 4 (.slice p j co) j (((t.us.map (setF name b c)).take j).flatMap usC) ∧ Keeps w2 wr)) (fun _ iv _ => t.us.length - (RowKit.intOf iv).toNat)
 case atStart => exact ⟨0, none, 0, rfl, rfl, Lib.hid ⟨Nat.zero_le _, World.ownsRow_nil _ _ _ _, Keeps.refl _⟩⟩
 case round =>
  obtain ⟨j, p, co, rfl, rfl, HH⟩ := hrel
  obtain ⟨wz, rfl⟩ : ∃ z : World, z = wr := ⟨_, rfl⟩
  have q2 : wz.cell? ⟨q, 2, none⟩ = some (.slice pu t.us.length cu) := by rw [(HB.out.keeps HH.out.2.2).cell]; rfl
  have hw : IntKind.i64.wrap ((j : Int) + 1) = (j : Int) + 1 := IntWalk.i64_in _ (by have := HUL.out; have := HH.out.1; omega)
  by_cases hlt : j < t.us.length
  ·have hd : decide ((j : Int) < (t.us.length : Int)) = true := decide_eq_true (by omega)
   have hj16 : j ≤ 16 := by have := HUL.out; omega
   obtain ⟨bs, o, hpu, hrg⟩ := HUA.out wz HH.out.2.2 j hlt
   subst hpu
   have HRG := Lib.hid hrg
   have HFE0 := Lib.hid (show setF name b c t.us[j] = if j = i then ⟨t.us[j].n, t.us[j].name, b, c⟩ else ⟨t.us[j].n, t.us[j].name, t.us[j].lb, t.us[j].lc⟩ from by
    unfold setF
    by_cases e : j = i
    ·rw [if_pos ((HIX.out.2 j hlt).2 e), if_pos e]
    ·rw [if_neg (fun h => e ((HIX.out.2 j hlt).1 h)), if_neg e])
   have HNN := Lib.hid (rfl : t.us[j].n = t.us[j].n)
   clear hrg
   obtain ⟨un, hun⟩ : ∃ z, t.us[j].n = z := ⟨_, rfl⟩
   obtain ⟨nm, hnm⟩ : ∃ z, t.us[j].name = z := ⟨_, rfl⟩
   obtain ⟨ub, hub⟩ : ∃ z, t.us[j].lb = z := ⟨_, rfl⟩
   obtain ⟨uc, huc⟩ : ∃ z, t.us[j].lc = z := ⟨_, rfl⟩
   rw [hun, hnm, hub, huc] at HRG HFE0
   clear hun hnm hub huc
   go_upto_region 11 with (refine wpList_ldR rfl usrM HRG.out _ rfl rfl ?_)
   generalize hW : World.alloc wz _ = wa
   have HD := Lib.hid (show Blk wa wz.heap.size 42 #[.int .i64 un, .string (bstr nm), .int .i64 ub, .int .i64 uc] from by rw [← hW]; exact Blk.new _ _ _ rfl)
   have HKa := Lib.hid (show Keeps w2 wa from by rw [← hW]; exact HH.out.2.2.alloc _)
   have HOa := Lib.hid (show wa.ownsRow w2.heap.size 42 4 (.slice p j co) j (((t.us.map (setF name b c)).take j).flatMap usC) from by rw [← hW]; exact ownsRow_keeps HH.out.2.1 ((Keeps.refl _).alloc _))
   have HDB := Lib.hid (show w2.heap.size ≤ wz.heap.size ∧ ∀ x, (Value.slice p j co).ownBlock = some x → x < wz.heap.size from ⟨HH.out.2.2.size, fun x hx => by
    obtain ⟨cs, hh⟩ := owns_obj HH.out.2.1 hx
    exact (Array.getElem?_eq_some_iff.1 hh).1⟩)
   clear hW q2 HRG
   obtain ⟨d, hdd⟩ : ∃ z, wz.heap.size = z := ⟨_, rfl⟩
   rw [hdd] at HD HDB ⊢
   clear hdd
   by_cases hji : j = i
   ·have hq : ((j : Int) == (i : Int)) = true := by simp [hji]
    have HFE := Lib.hid (show setF name b c t.us[j] = ⟨un, nm, b, c⟩ from by rw [HFE0.out, if_pos hji])
    clear hji HFE0
    have d2 : wa.cell? ⟨d, 2, none⟩ = some (.int .i64 ub) := by rw [HD.out.cell]; rfl
    have d3 : wa.cell? ⟨d, 3, none⟩ = some (.int .i64 uc) := by rw [HD.out.cell]; rfl
    have y2 : wa.frozen? ⟨d, 2, none⟩ = false := HD.out.frozen 2
    have y3 : wa.frozen? ⟨d, 3, none⟩ = false := HD.out.frozen 3
    go_upto_region 13 with (refine wpList_ld rfl limM (HL.out.keeps HKa.out) _ rfl rfl ?_)
    generalize hW : World.setCell (World.setCell wa _ _) _ _ = wd
    have hm : Mods (· = d) wa wd := by rw [← hW]; exact ((Mods.refl (· = d) wa).setCell (p := ⟨d, 2, none⟩) (fun _ => rfl) _).setCell (p := ⟨d, 3, none⟩) (fun _ => rfl) _
    have HD := Lib.hid (show Blk wd d 42 #[.int .i64 un, .string (bstr nm), .int .i64 b, .int .i64 c] from by rw [← hW]; exact (HD.out.set_ 2 _).set_ 3 _)
    have HKd := Lib.hid (hm.keeps HKa.out (fun x hx => by rw [hx]; exact HDB.out.1))
    have HOd := Lib.hid (ownsRow_mods HOa.out hm (fun x hx e => by have := HDB.out.2 x hx; omega))
    clear hW hm d2 d3 y2 y3 HOa HKa hq
    have HEQ := Lib.hid (show setF name b c t.us[j] = ⟨un, nm, b, c⟩ from HFE.out)
    have hwz : w2.heap.size ≤ wd.heap.size := HKd.out.size
    go_wp2_with (first | refine wpList_ld rfl usrM HD.out _ rfl rfl ?_ | (at_builtin; refine wpList_apps (base := w2.heap.size) usOk (by decide) rfl _ _ rfl (.slice p j co) (.slice (some ⟨wd.heap.size, 0, none⟩) 1 1) j 1 (((t.us.map (setF name b c)).take j).flatMap usC) [.int .i64 un, .string (bstr nm), .int .i64 b, .int .i64 c] rfl rfl (ownsRow_keeps HOd.out ((Keeps.refl _).alloc _)) (rowS_lit rfl rfl rfl) (by simp [Value.oneCell']) (by omega) (by decide) (Nat.le_trans hwz ((Keeps.refl wd).alloc _).size) ?_; intro v7 w7 ho7 hg7 hf7; have HV := Lib.hid (And.intro ho7 ((HKd.out.alloc (.cells #[.int .i64 un, .string (bstr nm), .int .i64 b, .int .i64 c] 42)).grown hg7 (fun x hx => ownsRow_base HOd.out x hx))); clear ho7 hg7 hf7))
    obtain ⟨p7, c7, rfl, -, -⟩ := ownsRow_form HV.out.1
    go_wp2_with fail
    go_roundw
    case rel =>
     refine ⟨j + 1, p7, c7, rfl, by simp, Lib.hid ⟨by omega, ?_, HV.out.2⟩⟩
     have e1 : (t.us.map (setF name b c)).take (j + 1) = (t.us.map (setF name b c)).take j ++ [⟨un, nm, b, c⟩] := by
      rw [List.take_succ_eq_append_getElem (by simpa using hlt), List.getElem_map, HEQ.out]
     rw [e1, List.flatMap_append]
     exact HV.out.1
    case measure => simp only [RowKit.intOf]; omega
   ·have hq : ((j : Int) == (i : Int)) = false := by simp; omega
    have HFE := Lib.hid (show setF name b c t.us[j] = ⟨un, nm, ub, uc⟩ from by rw [HFE0.out, if_neg hji])
    clear hji HFE0
    obtain ⟨wd, rfl⟩ : ∃ z, z = wa := ⟨_, rfl⟩
    have HKd := Lib.hid HKa.out
    have HOd := Lib.hid HOa.out
    clear HKa HOa
    go_upto_region 13 with fail
    have HEQ := Lib.hid (show setF name b c t.us[j] = ⟨un, nm, ub, uc⟩ from HFE.out)
    have hwz : w2.heap.size ≤ wd.heap.size := HKd.out.size
    go_wp2_with (first | refine wpList_ld rfl usrM HD.out _ rfl rfl ?_ | (at_builtin; refine wpList_apps (base := w2.heap.size) usOk (by decide) rfl _ _ rfl (.slice p j co) (.slice (some ⟨wd.heap.size, 0, none⟩) 1 1) j 1 (((t.us.map (setF name b c)).take j).flatMap usC) [.int .i64 un, .string (bstr nm), .int .i64 ub, .int .i64 uc] rfl rfl (ownsRow_keeps HOd.out ((Keeps.refl _).alloc _)) (rowS_lit rfl rfl rfl) (by simp [Value.oneCell']) (by omega) (by decide) (Nat.le_trans hwz ((Keeps.refl wd).alloc _).size) ?_; intro v7 w7 ho7 hg7 hf7; have HV := Lib.hid (And.intro ho7 ((HKd.out.alloc (.cells #[.int .i64 un, .string (bstr nm), .int .i64 ub, .int .i64 uc] 42)).grown hg7 (fun x hx => ownsRow_base HOd.out x hx))); clear ho7 hg7 hf7))
    obtain ⟨p7, c7, rfl, -, -⟩ := ownsRow_form HV.out.1
    go_wp2_with fail
    go_roundw
    case rel =>
     refine ⟨j + 1, p7, c7, rfl, by simp, Lib.hid ⟨by omega, ?_, HV.out.2⟩⟩
     have e1 : (t.us.map (setF name b c)).take (j + 1) = (t.us.map (setF name b c)).take j ++ [⟨un, nm, ub, uc⟩] := by
      rw [List.take_succ_eq_append_getElem (by simpa using hlt), List.getElem_map, HEQ.out]
     rw [e1, List.flatMap_append]
     exact HV.out.1
    case measure => simp only [RowKit.intOf]; omega
  ·have hd : decide ((j : Int) < (t.us.length : Int)) = false := decide_eq_false (by omega)
   obtain rfl : j = t.us.length := by have := HH.out.1; omega
   have HO3 := Lib.hid (show wz.ownsRow w2.heap.size 42 4 (.slice p t.us.length co) t.us.length ((t.us.map (setF name b c)).flatMap usC) from by have := HH.out.2.1; rwa [List.take_of_length_le (by simp)] at this)
   have HB3 := Lib.hid (HB.out.keeps HH.out.2.2)
   have HG3 := Lib.hid (HG.out.keeps HH.out.2.2)
   have HT3 := Lib.hid (HT2.out.keeps HH.out.2.2)
   have HK3 := Lib.hid (HK.out.trans HH.out.2.2)
   clear HH hlt hw HB HG HT2 HL HUA HK
   have z2 : wz.frozen? ⟨q, 2, none⟩ = false := HB3.out.frozen 2
   go_upto_region 15 with fail
   have HB4 := Lib.hid (HB3.out.set_ 2 (.slice p t.us.length co))
   have hm4 : Mods (· = q) wz (wz.setCell ⟨q, 2, none⟩ (.slice p t.us.length co)) := (Mods.refl (· = q) wz).setCell (p := ⟨q, 2, none⟩) (fun _ => rfl) _
   have HT4 := Lib.hid (HT3.out.blk hm4 HB3.out (by decide))
   have HG4 := Lib.hid (HG3.out.mods hm4 (fun e => by omega))
   have HO4 := Lib.hid (ownsRow_mods HO3.out hm4 (fun x hx e => ownsRow_ne HO3.out HB3.out (by decide) (by rw [hx, e])))
   have HK4 := Lib.hid (hm4.keeps HK3.out (fun x hx => by rw [hx, ← HQ.out]; omega))
   clear q2 z2 hm4 HB3 HT3 HG3 HO3 HK3
   generalize wz.setCell _ _ = w5 at *
   have HB4 := Lib.hid (show Blk w5 q 32 #[.string (bstr t.dom), .int .i64 t.next, .slice p t.us.length co, .slice pa L.length ca] from HB4.out)
   go_wp2_with (first
    |refine wpList_ld rfl rtM HB4.out _ rfl rfl ?_
    |(refine wpList_st (ds := #[.string (bstr t.dom), .int .i64 t.next, .slice p t.us.length co, .slice pa L.length ca, .int .i64 0, .int .i64 0]) rfl gotM HG4.out rfl (by simp [Value.oneCell']) _ _ rfl rfl rfl rfl ?_; intro w9 hB9 hM9; have HLd := Lib.hid (ld_run (P := Tryz.prog) gotM hB9); have HM9 := Lib.hid hM9; clear hB9 hM9))
   refine bodyPost_ret (v := .agg #[.string (bstr t.dom), .int .i64 t.next, .slice p t.us.length co, .slice pa L.length ca, .int .i64 0, .int .i64 0]) (by simp [results, Tryz.results39, Sem.run_bind, Sem.run_pure, Result.andThen_ok, Act.put, asAddr, HLd.out]) rfl ?_
   have hk9 : Keeps w w9 := HM9.out.keeps HK4.out (fun x hx => by rw [hx, ← HQ.out]; omega)
   have ho9 : w9.ownsRow w2.heap.size 42 4 (.slice p t.us.length co) t.us.length ((t.us.map (setF name b c)).flatMap usC) := ownsRow_mods HO4.out HM9.out (fun x hx e => ownsRow_ne HO4.out HG4.out (by decide) (by rw [hx, e]))
   have hT9 := HT4.out.blk HM9.out HG4.out (by decide)
   rw [HX.out]
   refine ⟨_, _, L, rfl, ⟨?_, hT9.al, hT9.alm, hT9.pay⟩, hk9⟩
   show w9.ownsRow 0 42 4 _ (t.us.map (setF name b c)).length ((t.us.map (setF name b c)).flatMap usC)
   rw [List.length_map]
   exact ownsRow_low ho9
end Usr
end Go.Proofs.YtklbemkafdccgaaGreat

/- ref13.AddAlias, plain: which names are good; where a name is put. -/
namespace Go.Proofs.YtklbemkafdccgaaGreat
namespace Usr
open Adr (Str)
def goodI (name : Str) (tos : List Str) (i : Nat) : Bool := nameB name && decide (0 < tos.length) && (tos.take i).all nameB && decide (tos.take i).Nodup
theorem goodI_zero (name : Str) (tos : List Str) : goodI name tos 0 = (nameB name && decide (0 < tos.length)) := by simp [goodI]
theorem goodI_next {name : Str} {tos : List Str} {i : Nat} (hi : i < tos.length) (h : goodI name tos i = true) : goodI name tos (i + 1) = (nameB tos[i] && (tos.take i).all (fun s => decide (s ≠ tos[i]))) := by
 unfold goodI at h ⊢
 simp only [Bool.and_eq_true, decide_eq_true_eq] at h
 obtain ⟨⟨⟨h1, h2⟩, h3⟩, h4⟩ := h
 rw [List.take_succ_eq_append_getElem hi, List.all_append, h1, h3, decide_eq_true h2]
 simp only [Bool.true_and, List.all_cons, List.all_nil, Bool.and_true]
 congr 1
 rw [Bool.eq_iff_iff, decide_eq_true_eq, List.all_eq_true, List.nodup_append]
 constructor
 ·rintro ⟨-, -, hd⟩ x hx
  simpa using hd x hx tos[i] (by simp)
 ·intro hd
  refine ⟨h4, by simp, fun x hx y hy => ?_⟩
  simp only [List.mem_singleton] at hy
  subst hy
  simpa using hd x hx
theorem goodI_end {name : Str} {tos : List Str} {i : Nat} (hi : i ≤ tos.length) (h : (decide (i < tos.length) && goodI name tos i) = false) : goodI name tos i = (nameB name && namesB tos) := by
 by_cases hlt : i < tos.length
 ·rw [decide_eq_true hlt, Bool.true_and] at h
  rw [h]
  symm
  rw [Bool.eq_false_iff]
  intro hg
  rw [Bool.eq_false_iff] at h
  refine h ?_
  unfold namesB at hg
  simp only [Bool.and_eq_true, decide_eq_true_eq] at hg
  unfold goodI
  simp only [Bool.and_eq_true, decide_eq_true_eq]
  refine ⟨⟨⟨hg.1, by omega⟩, ?_⟩, (List.take_sublist i tos).nodup hg.2.1.2⟩
  rw [List.all_eq_true]
  exact fun x hx => List.all_eq_true.1 hg.2.1.1 x (List.mem_of_mem_take hx)
 ·obtain rfl : i = tos.length := by omega
  unfold goodI namesB
  rw [List.take_length, Bool.and_assoc, Bool.and_assoc]
  congr 1
  rw [Bool.eq_iff_iff]
  simp only [Bool.and_eq_true, decide_eq_true_eq, ne_eq]
  rw [List.length_pos_iff]
  constructor
  ·rintro ⟨a, b, c⟩; exact ⟨⟨b, c⟩, a⟩
  ·rintro ⟨⟨b, c⟩, a⟩; exact ⟨a, b, c⟩
theorem all_next {tos : List Str} {x : Str} {k : Nat} (hk : k < tos.length) : (tos.take (k + 1)).all (fun s => decide (s ≠ x)) = ((tos.take k).all (fun s => decide (s ≠ x)) && decide (tos[k] ≠ x)) := by
 rw [List.take_succ_eq_append_getElem hk, List.all_append]
 simp
theorem insA_snoc (x y : AlP) (hxy : ltS y.name x.name = false) : ∀ l : List AlP, insA x (l ++ [y]) = insA x l ++ [y]
 | [] => by simp [insA, hxy]
 |z :: r => by
  simp only [List.cons_append, insA]
  split
  ·rw [insA_snoc x y hxy r]; rfl
  ·rfl
/-- the aliases that stay, of the first k -/
def stay (A : List AlP) (name : Str) (k : Nat) : List AlP := (A.take k).filter fun a => decide (a.name ≠ name)
theorem stay_next {A : List AlP} {name : Str} {k : Nat} (hk : k < A.length) : stay A name (k + 1) = stay A name k ++ (if A[k].name = name then [] else [A[k]]) := by
 unfold stay
 rw [List.take_succ_eq_append_getElem hk, List.filter_append]
 congr 1
 by_cases h : A[k].name = name
 ·simp [h]
 ·simp [h]
/-- the list behind the first k: with the new one, or not yet -/
def outK (A : List AlP) (name : Str) (tos : List Str) (pb : Bool) (k : Nat) : List AlP := if pb then insA ⟨name, tos⟩ (stay A name k) else stay A name k
theorem outK_len {A : List AlP} {name : Str} {tos : List Str} {pb : Bool} {k : Nat} (hk : k ≤ A.length) : (outK A name tos pb k).length ≤ k + 1 := by
 have h : (stay A name k).length ≤ k := by
  unfold stay
  refine Nat.le_trans (List.length_filter_le _ _) ?_
  rw [List.length_take]; omega
 unfold outK
 split
 ·rw [(insA_perm _ _).length_eq, List.length_cons]; omega
 ·omega
/-- put or not: whether one of the first k is not below the name -/
structure PutK (A : List AlP) (name : Str) (pb : Bool) (k : Nat) : Prop where
 no : pb = false → ∀ j (hj : j < A.length), j < k → ltS A[j].name name = true
 yes : pb = true → ∃ j, ∃ (hj : j < A.length), j < k ∧ ltS A[j].name name = false
theorem stay_below {A : List AlP} {name : Str} {k : Nat} (hk : k ≤ A.length) (h : PutK A name false k) : ∀ a ∈ stay A name k, ltS a.name name = true := by
 intro a ha
 have ha := (List.mem_filter.1 ha).1
 obtain ⟨j, hj, rfl⟩ := List.getElem_of_mem ha
 rw [List.length_take] at hj
 rw [List.getElem_take]
 exact h.no rfl j (by omega) (by omega)
theorem out_push {A : List AlP} {name : Str} {tos : List Str} {k : Nat} (hk : k ≤ A.length) (h : PutK A name false k) : outK A name tos true k = outK A name tos false k ++ [⟨name, tos⟩] := by
 unfold outK
 rw [if_pos rfl, if_neg (by simp), insA_end _ _ (fun a ha => stay_below hk h a ha)]
theorem out_next {A : List AlP} {name : Str} {tos : List Str} {pb : Bool} {k : Nat} (hk : k < A.length) (h : pb = true → ltS A[k].name name = false) : outK A name tos pb (k + 1) = outK A name tos pb k ++ (if A[k].name = name then [] else [A[k]]) := by
 unfold outK
 rw [stay_next hk]
 cases pb with
 |false => rfl
 |true =>
  simp only [if_true]
  by_cases e : A[k].name = name
  ·simp [e]
  ·rw [if_neg e]
   exact insA_snoc _ _ (h rfl) _
theorem putK_up {A : List AlP} {name : Str} {k j : Nat} (hs : A.Pairwise fun a b => ltS a.name b.name = true) (hj : j < A.length) (hk : k < A.length) (hjk : j < k) (h : ltS A[j].name name = false) : ltS A[k].name name = false := by
 have h1 := List.pairwise_iff_getElem.1 hs j k hj hk hjk
 rw [Bool.eq_false_iff] at h ⊢
 intro h2
 exact h ((ltS_lt _ _).2 (List.lt_trans ((ltS_lt _ _).1 h1) ((ltS_lt _ _).1 h2)))
theorem putK_yes {A : List AlP} {name : Str} {k : Nat} (hs : A.Pairwise fun a b => ltS a.name b.name = true) (hk : k < A.length) (h : PutK A name true k) : ltS A[k].name name = false := by
 obtain ⟨j, hj, hjk, hl⟩ := h.yes rfl
 exact putK_up hs hj hk hjk hl
theorem PutK.zero (A : List AlP) (name : Str) : PutK A name false 0 := ⟨fun _ j _ h => by omega, fun h => by cases h⟩
theorem PutK.more {A : List AlP} {name : Str} {k : Nat} (h : PutK A name true k) : PutK A name true (k + 1) := by
 obtain ⟨j, hj, a, b⟩ := h.yes rfl
 exact ⟨fun h => by simp at h, fun _ => ⟨j, hj, by omega, b⟩⟩
theorem PutK.turn {A : List AlP} {name : Str} {k : Nat} (hk : k < A.length) (h : ltS A[k].name name = false) : PutK A name true (k + 1) := ⟨fun h => by simp at h, fun _ => ⟨k, hk, by omega, h⟩⟩
theorem PutK.low {A : List AlP} {name : Str} {k : Nat} (hk : k < A.length) (h : PutK A name false k) (hl : ltS A[k].name name = true) : PutK A name false (k + 1) := ⟨fun _ j hj hjk => by
 by_cases e : j = k
 ·subst e; exact hl
 ·exact h.no rfl j hj (by omega), fun h => by simp at h⟩
end Usr
end Go.Proofs.YtklbemkafdccgaaGreat
