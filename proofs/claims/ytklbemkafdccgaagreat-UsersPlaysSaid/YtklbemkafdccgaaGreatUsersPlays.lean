/- The law UsersPlays: whatever is done with a table, each answer is the document's, and so is all that it tells. -/
import Derived.Test.YtklbemkafdccgaaGreatK50
import Derived.Test.YtklbemkafdccgaaGreatK49
import Derived.Test.YtklbemkafdccgaaGreatK51
import Derived.Test.YtklbemkafdccgaaGreatK44
import Derived.Test.YtklbemkafdccgaaGreatAdRef
namespace Go.Proofs.YtklbemkafdccgaaGreat
open Go.RowKit
namespace Usr
open Adr (Str domainB)
open Mp Go.Maps
open Frm (ownsRow_form)
theorem not_tfr {w : World} {g b1 b2 n d : Nat} {t : TabP} (h : TabAt w g b1 b2 n t) (hd : w.heap.size ≤ d) : ¬ TFr g b1 b2 d := by
 have := h.lt
 rintro (h | h | h) <;> omega
/-- behind an act: both tables with what the document's was -/
structure PlyAt (W wr : World) (g b1 b2 c d n : Nat) (T t : TabP) (pu : Option Addr) (cu : Nat) (pa : Option Addr) (ca : Nat) (L : List (AlP × Value)) (s1 s2 : Value) : Prop where
 tab : TabAt wr g b1 b2 n t
 rt : RT wr (.slice pu t.us.length cu) (.slice pa L.length ca) t L
 blk : Blk wr d 32 #[.string (bstr t.dom), .int .i64 t.next, .slice pu t.us.length cu, .slice pa L.length ca]
 was : Blk wr c 32 #[.string (bstr T.dom), .int .i64 T.next, s1, s2]
 kp : Keeps W wr
 lo : W.heap.size ≤ g ∧ W.heap.size ≤ b1 ∧ W.heap.size ≤ b2 ∧ W.heap.size ≤ c
 ne : c ≠ g ∧ c ≠ b1 ∧ c ≠ b2 ∧ c ≠ d
/-- the last ones that fit -/
structure LastAt (w5 wr : World) (us : List UsrP) (num : Int) (nm : Str) (bx by' j : Nat) (X Y : UsrP) (pb qb : Bool) : Prop where
 lj : j ≤ us.length
 x : X = (lastU (fun u => decide (u.n = num)) (us.take j)).getD zeroU
 p : pb = (lastU (fun u => decide (u.n = num)) (us.take j)).isSome
 y : Y = (lastU (fun u => decide (u.name = nm)) (us.take j)).getD zeroU
 q : qb = (lastU (fun u => decide (u.name = nm)) (us.take j)).isSome
 bx : Blk wr bx 42 (usrA X)
 by' : Blk wr by' 42 (usrA Y)
 kp : Keeps w5 wr
theorem last_step {p : UsrP → Bool} {us : List UsrP} {j : Nat} (hj : j < us.length) : lastU p (us.take (j + 1)) = if p us[j] = true then some us[j] else lastU p (us.take j) := by
 rw [List.take_succ_eq_append_getElem hj, lastU_snoc]
set_option maxRecDepth 100000 in
set_option maxHeartbeats 8000000 in
theorem usersPlays_walk (W : World) (a0 : ByteArray) (v1 : Value) (a1 : List ActU) (a2 : Int) (a3 : ByteArray) (w0 : a0.size ≤ maxLen) (r1 : RowS W 5 v1 a1.length (a1.flatMap auC)) (w1 : ∀ y ∈ a1, AuOk W y) (w2 : (Lit.int .i64 a2).wf = true) (w3 : a3.size ≤ maxLen) :
  Calls Tryz.prog 3 #[.string a0, v1, .int .i64 a2, .string a3] W fun e w' => e = .returned (.bool true) ∧ Keeps W w' := by
 obtain ⟨dom, rfl⟩ : ∃ d : Str, a0 = bstr d := ⟨a0.data.toList, (bstr_list a0).symm⟩
 obtain ⟨x, rfl⟩ : ∃ d : Str, a3 = bstr d := ⟨a3.data.toList, (bstr_list a3).symm⟩
 have HR1 := Lib.hid r1
 have HO1 := Lib.hid w1
 have hs0 : (bstr dom).size = dom.length := bstr_size _
 have hs1 : (bstr x).size = x.length := bstr_size _
 obtain ⟨p0, cap0, rfl, -, -⟩ := r1.form
 clear r1 w1 w0 w2 w3
 go_enter Tryz.func3, Tryz.ntmps3
 go_wp2_with fail
 refine (awake13_any W).mono ?_
 rintro e wb ⟨rfl, hk⟩
 have HK := Lib.hid hk
 clear hk
 have CF := Lib.hid (few13_any _ a1 wb (HR1.out.keeps HK.out) (fun y hy => (HO1.out y hy).keeps HK.out))
 go_wp2_with fail
 refine CF.out.mono ?_
 rintro e wD ⟨b, rfl, hb, hk⟩
 have HK := Lib.hid (HK.out.trans hk)
 have HF := Lib.hid hb
 clear hk hb CF
 cases b with
 |false =>
  go_wp2_with fail
  go_ret
  exact ⟨rfl, HK.out⟩
 |true =>
 have HFW := Lib.hid (HF.out rfl)
 clear HF
 by_cases hd : 100 < dom.length
 ·have hd' : decide ((100 : Int) < (dom.length : Int)) = true := decide_eq_true (by omega)
  go_wp2_with fail
  go_ret
  exact ⟨rfl, HK.out⟩
 have hd' : decide ((100 : Int) < (dom.length : Int)) = false := decide_eq_false (by omega)
 by_cases hx : 100 < x.length
 ·have hx' : decide ((100 : Int) < (x.length : Int)) = true := decide_eq_true (by omega)
  go_wp2_with fail
  go_ret
  exact ⟨rfl, HK.out⟩
 have hx' : decide ((100 : Int) < (x.length : Int)) = false := decide_eq_false (by omega)
 have HLE := Lib.hid (show dom.length ≤ 100 ∧ x.length ≤ 100 from by omega)
 clear hd hx
 have CM := Lib.hid (new_any wD dom (by have := HLE.out; omega))
 go_upto_region 5 with fail
 clear hs0 hs1
 go_wp2_with fail
 refine CM.out.mono ?_
 clear CM
 rintro e w2 (⟨hdom, g, b1, b2, rfl, hlo, hT, hk⟩ | ⟨hdom, rfl, hk⟩)
 rotate_left
 ·have HD := Lib.hid hdom
  have HK := Lib.hid (HK.out.trans hk)
  clear hdom hk
  have CR := Lib.hid (Adr.rdomain_any dom (by have := HLE.out; omega) w2)
  rw [HD.out] at CR
  go_wp2_with fail
  refine CR.out.mono ?_
  rintro e w3 ⟨rfl, hk⟩
  have HK := Lib.hid (HK.out.trans hk)
  clear hk
  go_wp2_with fail
  go_ret
  exact ⟨rfl, HK.out⟩
 have HDOM := Lib.hid hdom
 have HLO := Lib.hid hlo
 have HT := Lib.hid hT
 have HK2 := Lib.hid hk
 clear hdom hlo hT hk
 go_wp2_with fail
 refine (rLower_any dom (by have := HLE.out; omega) _).mono ?_
 rintro e w3 ⟨rfl, hk⟩
 have HT := Lib.hid (show TabAt w3 g b1 b2 0 (tabN dom) from HT.out.keeps hk)
 have HK2 := Lib.hid (HK2.out.trans hk)
 clear hk
 go_upto_region 9 with fail
 generalize hW : World.alloc w3 _ = w4
 have HC := Lib.hid (show Blk w4 w3.heap.size 32 #[.string (bstr (tabN dom).dom), .int .i64 (tabN dom).next, .slice none (tabN dom).us.length 0, .slice none ([] : List (AlP × Value)).length 0] from by rw [← hW]; exact Blk.new _ _ _ rfl)
 have HK4 := Lib.hid (show Keeps w3 w4 from by rw [← hW]; exact (Keeps.refl _).alloc _)
 clear hW
 obtain ⟨c, hc⟩ : ∃ z, w3.heap.size = z := ⟨_, rfl⟩
 have HMD := Lib.hid (show MdAt wD w4 g b1 b2 c 0 (tabN dom) none 0 none 0 [] from ⟨HT.out.keeps HK4.out, RT.new _ _, by rw [← hc]; exact HC.out, HK2.out.trans HK4.out, by have h1 := HLO.out; have h2 := HK2.out.size; omega, by have := HT.out.lt; omega⟩)
 rw [hc] at HC ⊢
 clear hc HT HC HK4 HK2
 go_wp2_with fail
 go_loopw [11] (fun iv wr => ∃ (j : Nat), iv = .int .i64 (j : Int) ∧ Hid (j ≤ a1.length ∧ ∃ pu cu pa ca L, MdAt wD wr g b1 b2 c j (actsP (tabN dom) (a1.take j)) pu cu pa ca L)) (fun iv _ => a1.length - (RowKit.intOf iv).toNat)
 case atStart => exact ⟨0, rfl, Lib.hid ⟨Nat.zero_le _, none, 0, none, 0, [], HMD.out⟩⟩
 case round =>
  obtain ⟨j, rfl, HH⟩ := hrel
  obtain ⟨wz, rfl⟩ : ∃ z : World, z = wr := ⟨_, rfl⟩
  obtain ⟨pu, cu, pa, ca, L, hmd⟩ := HH.out.2
  have HMZ := Lib.hid hmd
  have HJ := Lib.hid HH.out.1
  clear hmd HMD
  have HRT := Lib.hid (show Right (actsP (tabN dom) (a1.take j)) from right_acts (right_new (lowL dom)) (a1.take j))
  have HTD := Lib.hid (show (actsP (tabN dom) (a1.take j)).dom = lowL dom from dom_acts (tabN dom) _)
  by_cases hlt : j < a1.length
  ·have hw : IntKind.i64.wrap ((j : Int) + 1) = (j : Int) + 1 := IntWalk.i64_in _ (by have := HFW.out.1; have := HJ.out; omega)
   have hd : decide ((j : Int) < (a1.length : Int)) = true := decide_eq_true (by omega)
   obtain ⟨b, off, cap, hv, hrg⟩ := au_range (HR1.out.keeps (HK.out.trans HMZ.out.kp)) hlt
   simp only [Value.slice.injEq] at hv
   obtain ⟨rfl, -, rfl⟩ := hv
   have HX := Lib.hid (show actsP (tabN dom) (a1.take (j + 1)) = (doP (actsP (tabN dom) (a1.take j)) a1[j].kind a1[j].name a1[j].lb a1[j].lc a1[j].tos).1 from by rw [List.take_succ_eq_append_getElem hlt, actsP_snoc])
   have HRT' := Lib.hid (show Right (actsP (tabN dom) (a1.take (j + 1))) from right_acts (right_new (lowL dom)) _)
   have HTD' := Lib.hid (show (actsP (tabN dom) (a1.take (j + 1))).dom = lowL dom from dom_acts (tabN dom) _)
   have HOX := Lib.hid (HO1.out _ (List.getElem_mem hlt))
   have HFX := Lib.hid (HFW.out.2 _ (List.getElem_mem hlt))
   obtain ⟨pt, ct, hpt, -, -⟩ := HOX.out.row.form
   have HRW := Lib.hid (HOX.out.row.keeps HK.out)
   rw [hpt] at HRW hrg
   rw [List.length_map] at HRW hrg
   have hbl : b < W.heap.size := by
    have := (HR1.out.at_ (by omega))
    obtain ⟨b', off', cap', hv', -, -, HC'⟩ := this
    simp only [Value.slice.injEq, Option.some.injEq, Addr.mk.injEq] at hv'
    obtain ⟨⟨rfl, -, -⟩, -, -⟩ := hv'
    exact lt_of_cell (HC'.out (j * 5 + 0) _ (by rw [au_at hlt (by decide)]; rfl))
   have HBL := Lib.hid (Nat.lt_of_lt_of_le hbl HK.out.size)
   have HRG := Lib.hid (show ∀ x, Mods (TFr g b1 b2) wz x → x.rangeAt b (off + j * 5) [.int .i64 a1[j].kind, .string (bstr a1[j].name), .int .i64 a1[j].lb, .int .i64 a1[j].lc, .slice pt a1[j].tos.length ct] from fun x hS m u hm => hS.cell (hrg m u hm) (by
    have h1 := HMZ.out.lo
    have h2 := HBL.out
    rintro (h | h | h) <;> (simp only at h; omega)))
   clear hrg hpt hbl HOX
   generalize a1[j].kind = kd at *
   generalize a1[j].name = nm at *
   generalize a1[j].lb = lb at *
   generalize a1[j].lc = lc at *
   generalize a1[j].tos = tos at *
   generalize actsP (tabN dom) (a1.take j) = T at *
   obtain ⟨T', hTE⟩ : ∃ z, actsP (tabN dom) (a1.take (j + 1)) = z := ⟨_, rfl⟩
   have HTE := Lib.hid hTE
   rw [hTE] at HX HRT' HTD'
   clear hTE
   go_upto_region 12 with fail
   have HMd := Lib.hid (HMZ.out.keeps (Keeps.refl wz).drew)
   have HJN := Lib.hid (show j < 900000 from by have := HFW.out.1; have := HJ.out; omega)
   go_cut [12, 13] (fun pv bv wx => ∃ d pu' cu' pa' ca' L', pv = .pointer (some ⟨d, 0, none⟩) ∧ bv = .bool true ∧ Hid (PlyAt wD wx g b1 b2 c d (j + 1) T T' pu' cu' pa' ca' L' (.slice pu T.us.length cu) (.slice pa L.length ca)))
   case first =>
    refine wp_region_noPanic ?_
    refine wp_region_held_drew (S := fun w' => Mods (TFr g b1 b2) wz w') (by kernel_rfl) ((Mods.refl (TFr g b1 b2) wz).drew) (fun _ => ?_)
    have hHeld : Mods (TFr g b1 b2) wz (wz).drew := (Mods.refl (TFr g b1 b2) wz).drew
    generalize World.drew wz = xs at *
    refine tq 0 55 ?_
    refine wpAnyH_take (i := 1) (by rfl) (by kernel_rfl) (by kernel_rfl) (by kernel_rfl) (by intro _ _ _ h; exact h) (yieldsIf_ld (by kernel_rfl) rtM (fun x hS => HMZ.out.blk.mods hS (by have := HMZ.out.ne; rintro (h | h | h) <;> omega)) _ rfl rfl) (by assumption) ?rest2
    change wpAnyH _ _ _ _ _ _ _ (Act.put _ (some 56) _) _
    try simp only [Act.put, List.setIfInBounds_toArray, List.set_cons_zero, List.set_cons_succ]
    refine tq 2 57 ?_
    refine tq 3 58 ?_
    refine tq 4 59 ?_
    refine wpAnyH_take (i := 5) (by rfl) (by kernel_rfl) (by kernel_rfl) (by kernel_rfl) (by intro _ _ _ h; exact h) (yieldsIf_ldR (by kernel_rfl) actM13 (fun x hS => HRG.out x hS) _ rfl rfl) (by assumption) ?rest6
    change wpAnyH _ _ _ _ _ _ _ (Act.put _ (some 60) _) _
    try simp only [Act.put, List.setIfInBounds_toArray, List.set_cons_zero, List.set_cons_succ]
    refine wpAnyH_ready (rs := [6, 10]) (by kernel_rfl) (by simp) ?_
    refine AllReadyH.cons (o := _) rfl (fun K hK => ?_) ?_
    ·go_simp
     refine (do_any _ g b1 b2 j T T HMd.out.tab HRT.out HJN.out _ _ L HMd.out.rt HRT.out kd nm lb lc _ tos (HRW.out.keeps HMd.out.kp) HFX.out.1 HFX.out.2.1 HFX.out.2.2).mono ?_
     unfold DoDid
     rw [← HX.out]
     rintro e x6 ⟨uv', av', L', bl, rfl, hr', hT', hM', hbl⟩
     obtain rfl := hbl rfl
     obtain ⟨pu', cu', pa', ca', rfl, rfl, -, -⟩ := hr'.forms
     unfold rtV
     have HR6 := Lib.hid hr'
     have HT6 := Lib.hid hT'
     have HC6 := Lib.hid (HMd.out.blk.mods hM' (by have := HMd.out.ne; rintro (h | h | h) <;> omega))
     have HK6 := Lib.hid (hM'.keeps HMd.out.kp (by have := HMd.out.lo; rintro x (h | h | h) <;> omega))
     have hb := hHeld.trans hM' (fun x hx _ => hx)
     clear hr' hT' hM' HMd hbl
     go_wp2_with fail
     refine bkm hK hb ?_
     clear hK K hHeld
     have hHeld : Mods (TFr g b1 b2) wz x6 := hb
     clear hb
     refine tq 7 54 ?_
     refine tq 8 62 ?_
     refine tq 9 63 ?_
     refine rd1 10 (fun K hK => ?_)
     go_simp
     obtain ⟨d, hd9⟩ : ∃ z, z = (World.heap x6).size := ⟨_, rfl⟩
     have HDS := Lib.hid (show wz.heap.size ≤ d from by rw [hd9]; exact hHeld.size)
     have HD := Lib.hid (Blk.new x6 32 #[.string ⟨#[]⟩, .int .i64 0, .slice none 0 0, .slice none 0 0] hd9)
     have HDN := Lib.hid (not_tfr HT6.out (Nat.le_of_eq hd9.symm))
     have HDC := Lib.hid (show c ≠ d from by have := HC6.out.lt; omega)
     have hk9 := (Keeps.refl x6).alloc (.cells #[.string ⟨#[]⟩, .int .i64 0, .slice none 0 0, .slice none 0 0] 32)
     have HT6 := Lib.hid (HT6.out.keeps hk9)
     have HR6 := Lib.hid (HR6.out.keeps hk9)
     have HC6 := Lib.hid (HC6.out.keeps hk9)
     have HK6 := Lib.hid (HK6.out.trans hk9)
     clear hk9
     have hb := hHeld.alloc (.cells #[.string ⟨#[]⟩, .int .i64 0, .slice none 0 0, .slice none 0 0] 32)
     rw [← hd9]
     clear hd9
     generalize World.alloc x6 (.cells #[.string ⟨#[]⟩, .int .i64 0, .slice none 0 0, .slice none 0 0] 32) = xA at *
     refine bkm hK hb ?_
     clear hK K hHeld
     have hHeld : Mods (TFr g b1 b2) wz xA := hb
     clear hb
     refine rd1 11 (fun K hK => ?_)
     refine step_st (ds := #[.string (bstr T'.dom), .int .i64 T'.next, .slice pu' T'.us.length cu', .slice pa' L'.length ca']) rfl rtM HD.out rfl (by simp [Value.oneCell']) _ _ rfl rfl rfl rfl ?_
     intro xF hBF hMF
     have hb : Mods (TFr g b1 b2) wz xF := hHeld.trans hMF (fun x h hl => absurd hl (by have := HDS.out; omega))
     have HR7 := Lib.hid (HR6.out.blk hMF HD.out (by decide))
     have HT7 := Lib.hid (HT6.out.blkO hMF HD.out (by decide) (by have := HDN.out; unfold TFr at this; omega))
     have HC7 := Lib.hid (HC6.out.mods hMF (fun e => HDC.out e))
     have HK7 := Lib.hid (hMF.keeps HK6.out (fun x hx => by have := HDS.out; have := HMZ.out.kp.size; omega))
     have HB7 := Lib.hid hBF
     clear hBF hMF HR6 HT6 HK6 HC6 HD
     refine bkm hK hb ?_
     clear hK K hHeld
     have hHeld : Mods (TFr g b1 b2) wz xF := hb
     clear hb
     refine tq 12 13 ?_
     refine wpAnyH_done (by kernel_rfl) ?_ _
     refine NoPanic.normal ?_
     go_wp2_with fail
     go_meet
     exact ⟨d, pu', cu', pa', ca', L', rfl, rfl, Lib.hid ⟨HT7.out, HR7.out, HB7.out, HC7.out, HK7.out, HMZ.out.lo, HMZ.out.ne.1, HMZ.out.ne.2.1, HMZ.out.ne.2.2, HDC.out⟩⟩
    refine AllReadyH.cons (o := _) rfl (fun K hK => ?_) ?_
    ·go_simp
     obtain ⟨d, hd9⟩ : ∃ z, z = (World.heap xs).size := ⟨_, rfl⟩
     have HDS := Lib.hid (show wz.heap.size ≤ d from by rw [hd9]; exact hHeld.size)
     have HD := Lib.hid (Blk.new xs 32 #[.string ⟨#[]⟩, .int .i64 0, .slice none 0 0, .slice none 0 0] hd9)
     have HDN := Lib.hid (not_tfr HMd.out.tab (Nat.le_of_eq hd9.symm))
     have HDC := Lib.hid (show c ≠ d from by have := HMd.out.blk.lt; omega)
     have HMd := Lib.hid (HMd.out.keeps ((Keeps.refl _).alloc (.cells #[.string ⟨#[]⟩, .int .i64 0, .slice none 0 0, .slice none 0 0] 32)))
     have hb := hHeld.alloc (.cells #[.string ⟨#[]⟩, .int .i64 0, .slice none 0 0, .slice none 0 0] 32)
     rw [← hd9]
     clear hd9
     generalize World.alloc xs (.cells #[.string ⟨#[]⟩, .int .i64 0, .slice none 0 0, .slice none 0 0] 32) = xA at *
     refine bkm hK hb ?_
     clear hK K hHeld
     have hHeld : Mods (TFr g b1 b2) wz xA := hb
     clear hb
     refine rd1 6 (fun K hK => ?_)
     go_simp
     refine (do_any _ g b1 b2 j T T HMd.out.tab HRT.out HJN.out _ _ L HMd.out.rt HRT.out kd nm lb lc _ tos (HRW.out.keeps HMd.out.kp) HFX.out.1 HFX.out.2.1 HFX.out.2.2).mono ?_
     unfold DoDid
     rw [← HX.out]
     rintro e x6 ⟨uv', av', L', bl, rfl, hr', hT', hM', hbl⟩
     obtain rfl := hbl rfl
     obtain ⟨pu', cu', pa', ca', rfl, rfl, -, -⟩ := hr'.forms
     unfold rtV
     have HR6 := Lib.hid hr'
     have HT6 := Lib.hid hT'
     have HC6 := Lib.hid (HMd.out.blk.mods hM' (by have := HMd.out.ne; rintro (h | h | h) <;> omega))
     have HD := Lib.hid (HD.out.mods hM' HDN.out)
     have HK6 := Lib.hid (hM'.keeps HMd.out.kp (by have := HMd.out.lo; rintro x (h | h | h) <;> omega))
     have hb := hHeld.trans hM' (fun x hx _ => hx)
     clear hr' hT' hM' HMd hbl
     go_wp2_with fail
     refine bkm hK hb ?_
     clear hK K hHeld
     have hHeld : Mods (TFr g b1 b2) wz x6 := hb
     clear hb
     refine tq 7 54 ?_
     refine tq 8 62 ?_
     refine tq 9 63 ?_
     refine rd1 11 (fun K hK => ?_)
     refine step_st (ds := #[.string (bstr T'.dom), .int .i64 T'.next, .slice pu' T'.us.length cu', .slice pa' L'.length ca']) rfl rtM HD.out rfl (by simp [Value.oneCell']) _ _ rfl rfl rfl rfl ?_
     intro xF hBF hMF
     have hb : Mods (TFr g b1 b2) wz xF := hHeld.trans hMF (fun x h hl => absurd hl (by have := HDS.out; omega))
     have HR7 := Lib.hid (HR6.out.blk hMF HD.out (by decide))
     have HT7 := Lib.hid (HT6.out.blkO hMF HD.out (by decide) (by have := HDN.out; unfold TFr at this; omega))
     have HC7 := Lib.hid (HC6.out.mods hMF (fun e => HDC.out e))
     have HK7 := Lib.hid (hMF.keeps HK6.out (fun x hx => by have := HDS.out; have := HMZ.out.kp.size; omega))
     have HB7 := Lib.hid hBF
     clear hBF hMF HR6 HT6 HK6 HC6 HD
     refine bkm hK hb ?_
     clear hK K hHeld
     have hHeld : Mods (TFr g b1 b2) wz xF := hb
     clear hb
     refine tq 12 13 ?_
     refine wpAnyH_done (by kernel_rfl) ?_ _
     refine NoPanic.normal ?_
     go_wp2_with fail
     go_meet
     exact ⟨d, pu', cu', pa', ca', L', rfl, rfl, Lib.hid ⟨HT7.out, HR7.out, HB7.out, HC7.out, HK7.out, HMZ.out.lo, HMZ.out.ne.1, HMZ.out.ne.2.1, HMZ.out.ne.2.2, HDC.out⟩⟩
    exact AllReadyH.nil
   case rest =>
   obtain ⟨d, pu', cu', pa', ca', L', rfl, rfl, HP⟩ := hcut
   obtain ⟨wy, rfl⟩ : ∃ z : World, z = wc := ⟨_, rfl⟩
   clear HMd HRG HRW HMZ HRT HTD HBL HX HFX
   have CS := Lib.hid (same_any wy g b1 b2 (j + 1) T' HP.out.tab HRT'.out (by have := HJN.out; omega) (by rw [HTD'.out, lowL_len]; have := HLE.out; omega) _ _ L' HP.out.rt)
   unfold rtV at CS
   have d0 : wy.cell? ⟨d, 0, none⟩ = some (.string (bstr T'.dom)) := by rw [HP.out.blk.cell]; rfl
   have d1 : wy.cell? ⟨d, 1, none⟩ = some (.int .i64 T'.next) := by rw [HP.out.blk.cell]; rfl
   have d2 : wy.cell? ⟨d, 2, none⟩ = some (.slice pu' T'.us.length cu') := by rw [HP.out.blk.cell]; rfl
   have d3 : wy.cell? ⟨d, 3, none⟩ = some (.slice pa' L'.length ca') := by rw [HP.out.blk.cell]; rfl
   go_wp2_with fail
   refine CS.out.mono ?_
   rintro e wx ⟨rfl, hk⟩
   have HT8 := Lib.hid (HP.out.tab.keeps hk)
   have HR8 := Lib.hid (HP.out.rt.keeps hk)
   have HB8 := Lib.hid (HP.out.blk.keeps hk)
   have HC8 := Lib.hid (HP.out.was.keeps hk)
   have HK8 := Lib.hid (HP.out.kp.trans hk)
   have HNE := Lib.hid (And.intro HP.out.lo HP.out.ne)
   clear hk CS d0 d1 d2 d3 HP
   go_wp2_with (first
    |refine wpList_ld rfl rtM HB8.out _ rfl rfl ?_
    |(refine wpList_st (ds := #[.string (bstr T'.dom), .int .i64 T'.next, .slice pu' T'.us.length cu', .slice pa' L'.length ca']) rfl rtM HC8.out rfl (by simp [Value.oneCell']) _ _ rfl rfl rfl rfl ?_; intro w9 hB9 hM9; have HB9 := Lib.hid hB9; have HM9 := Lib.hid hM9; clear hB9 hM9))
   go_roundw
   case rel =>
    refine ⟨j + 1, by simp, Lib.hid ⟨by omega, pu', cu', pa', ca', L', ?_⟩⟩
    rw [HTE.out]
    exact ⟨HT8.out.blkO HM9.out HC8.out (by decide) ⟨HNE.out.2.1, HNE.out.2.2.1, HNE.out.2.2.2.1⟩, HR8.out.blk HM9.out HC8.out (by decide), HB9.out, HM9.out.keeps HK8.out (fun x hx => by have := HNE.out.1; omega), HNE.out.1, HNE.out.2.1, HNE.out.2.2.1, HNE.out.2.2.2.1⟩
   case measure => simp only [RowKit.intOf]; omega
  ·have hd : decide ((j : Int) < (a1.length : Int)) = false := decide_eq_false (by omega)
   obtain rfl : j = a1.length := by have := HJ.out; omega
   clear HH hlt HTD
   rw [List.take_length] at HMZ HRT
   generalize actsP (tabN dom) a1 = T at *
   have C1 := Lib.hid (user_any wz g b1 b2 a1.length T HMZ.out.tab HRT.out a2)
   have HL1 := Lib.hid (show lastU (fun u => decide (u.n = a2)) T.us = findN T a2 from last_num HRT.out a2)
   have HL2 := Lib.hid (show lastU (fun u => decide (u.name = x)) T.us = findU T x from last_name HRT.out x)
   obtain ⟨U1, hU1⟩ : ∃ z, (findN T a2).getD zeroU = z := ⟨_, rfl⟩
   obtain ⟨B1, hB1⟩ : ∃ z, (findN T a2).isSome = z := ⟨_, rfl⟩
   have HU1 := Lib.hid (And.intro hU1 hB1)
   rw [hU1, hB1] at C1
   clear hU1 hB1
   unfold usrV usrA at C1
   go_wp2_with fail
   refine C1.out.mono ?_
   rintro e wa ⟨rfl, hk⟩
   have HMa := Lib.hid (HMZ.out.keeps hk)
   clear hk C1
   go_upto_region 17 with fail
   generalize hW : World.alloc wa _ = wb'
   have HKb := Lib.hid (show Keeps wa wb' from by rw [← hW]; exact (Keeps.refl _).alloc _)
   have HA1 := Lib.hid (show Blk wb' wa.heap.size 42 #[.int .i64 U1.n, .string (bstr U1.name), .int .i64 U1.lb, .int .i64 U1.lc] from by rw [← hW]; exact Blk.new _ _ _ rfl)
   clear hW
   obtain ⟨p1, hp1⟩ : ∃ z, wa.heap.size = z := ⟨_, rfl⟩
   rw [hp1] at HA1 ⊢
   clear hp1
   have HMb := Lib.hid (HMa.out.keeps HKb.out)
   have C2 := Lib.hid (find_any wb' g b1 b2 a1.length T HMb.out.tab x (by have := HLE.out; unfold maxLen; omega))
   obtain ⟨U2, hU2⟩ : ∃ z, (findU T x).getD zeroU = z := ⟨_, rfl⟩
   obtain ⟨B2, hB2⟩ : ∃ z, (findU T x).isSome = z := ⟨_, rfl⟩
   have HU2 := Lib.hid (And.intro hU2 hB2)
   rw [hU2, hB2] at C2
   clear hU2 hB2
   unfold usrV usrA at C2
   go_wp2_with fail
   refine C2.out.mono ?_
   rintro e wc2 ⟨rfl, hk⟩
   have HMc := Lib.hid (HMb.out.keeps hk)
   have HA1 := Lib.hid (HA1.out.keeps hk)
   clear hk C2 HKb HMa HMb
   go_upto_region 18 with fail
   generalize hW : World.alloc wc2 _ = wd
   have HKd := Lib.hid (show Keeps wc2 wd from by rw [← hW]; exact (Keeps.refl _).alloc _)
   have HA2 := Lib.hid (show Blk wd wc2.heap.size 42 #[.int .i64 U2.n, .string (bstr U2.name), .int .i64 U2.lb, .int .i64 U2.lc] from by rw [← hW]; exact Blk.new _ _ _ rfl)
   clear hW
   obtain ⟨p2, hp2⟩ : ∃ z, wc2.heap.size = z := ⟨_, rfl⟩
   rw [hp2] at HA2 ⊢
   clear hp2
   have HMd := Lib.hid (HMc.out.keeps HKd.out)
   have HA1 := Lib.hid (HA1.out.keeps HKd.out)
   clear HKd HMc HMZ
   go_upto_region 19 with fail
   generalize hW : World.alloc (World.alloc wd _) _ = w5
   have HKe := Lib.hid (show Keeps wd w5 from by rw [← hW]; exact ((Keeps.refl _).alloc _).alloc _)
   have HX5 := Lib.hid (show Blk w5 wd.heap.size 42 (usrA zeroU) from by rw [← hW]; exact (Blk.new _ _ _ rfl).keeps ((Keeps.refl _).alloc _))
   have HY5 := Lib.hid (show Blk w5 (wd.heap.size + 1) 42 (usrA zeroU) from by rw [← hW]; exact Blk.new _ _ _ (Frm.alloc_size _ _).symm)
   clear hW
   obtain ⟨bx, hbx⟩ : ∃ z, wd.heap.size = z := ⟨_, rfl⟩
   have HBX := Lib.hid (show wd.heap.size = bx from hbx)
   rw [hbx] at HX5 HY5 ⊢
   clear hbx
   have HTU := Lib.hid (HMd.out.rt.tab.us)
   have HUR := Lib.hid (show ∀ wx, Keeps wd wx → ∀ j (hj : j < T.us.length), ∃ bs o, pu = some ⟨bs, o, none⟩ ∧ wx.rangeAt bs (o + j * 4) [.int .i64 T.us[j].n, .string (bstr T.us[j].name), .int .i64 T.us[j].lb, .int .i64 T.us[j].lc] from fun wx k j hj => by
    rcases (HTU.out.keeps k).2 with ⟨a0, cap, hv, h0, -⟩ | ⟨b', off, cap, hv, -, -, hc⟩
    ·omega
    ·simp only [Value.slice.injEq] at hv
     refine ⟨b', off, hv.1, fun m v hm => ?_⟩
     have hm4 : m < 4 := by have := (List.getElem?_eq_some_iff.1 hm).1; simpa using this
     have := hc (j * 4 + m) v (by rw [us_at hj hm4]; exact hm)
     rwa [← Nat.add_assoc] at this)
   have HL0 := Lib.hid (show LastAt wd w5 T.us a2 x bx (bx + 1) 0 zeroU zeroU false false from ⟨Nat.zero_le _, rfl, rfl, rfl, rfl, HX5.out, HY5.out, HKe.out⟩)
   clear HX5 HY5 HTU hd
   go_wp2_with fail
   go_loopw [20, 21, 22] (fun pv qv iv wr => ∃ (j : Nat) (X Y : UsrP) (pb qb : Bool), pv = .bool pb ∧ qv = .bool qb ∧ iv = .int .i64 (j : Int) ∧ Hid (LastAt wd wr T.us a2 x bx (bx + 1) j X Y pb qb)) (fun _ _ iv _ => T.us.length - (RowKit.intOf iv).toNat)
   case atStart => exact ⟨0, zeroU, zeroU, false, false, rfl, rfl, rfl, HL0⟩
   case round =>
    obtain ⟨j, X, Y, pb, qb, rfl, rfl, rfl, HLJ⟩ := hrel
    obtain ⟨wz, rfl⟩ : ∃ z : World, z = wr := ⟨_, rfl⟩
    clear HL0 HKe
    have c2 : wz.cell? ⟨c, 2, none⟩ = some (.slice pu T.us.length cu) := by rw [(HMd.out.blk.keeps HLJ.out.kp).cell]; rfl
    have hw : IntKind.i64.wrap ((j : Int) + 1) = (j : Int) + 1 := IntWalk.i64_in _ (by have := HRT.out.ul; have := HLJ.out.lj; omega)
    by_cases hlt : j < T.us.length
    ·have hd : decide ((j : Int) < (T.us.length : Int)) = true := decide_eq_true (by omega)
     obtain ⟨bs, o, hpu, hrg⟩ := HUR.out wz HLJ.out.kp j hlt
     subst hpu
     have a0 : wz.cell? ⟨bs, o + j * 4, none⟩ = some (.int .i64 T.us[j].n) := hrg 0 _ rfl
     have a1' : wz.cell? ⟨bs, o + j * 4 + 1, none⟩ = some (.string (bstr T.us[j].name)) := hrg 1 _ rfl
     have HRG := Lib.hid hrg
     have HSX := Lib.hid (last_step (p := fun u => decide (u.n = a2)) hlt)
     have HSY := Lib.hid (last_step (p := fun u => decide (u.name = x)) hlt)
     have HUJ := Lib.hid (show T.us[j] = ⟨T.us[j].n, T.us[j].name, T.us[j].lb, T.us[j].lc⟩ from rfl)
     have HWB := Lib.hid (show bs < wd.heap.size from by
      obtain ⟨bs', o', hpu', hrg'⟩ := HUR.out wd (Keeps.refl _) j hlt
      simp only [Option.some.injEq, Addr.mk.injEq] at hpu'
      rw [hpu'.1]
      exact lt_of_cell (hrg' 0 _ rfl))
     clear hrg
     generalize T.us[j] = u at *
     obtain ⟨un, unm, ub, uc⟩ := u
     simp only at a0 a1' HRG HSX HSY HUJ
     have heq : ((bstr unm).toList == (bstr x).toList) = decide (unm = x) := by rw [bstr_toList, bstr_toList, Bool.eq_iff_iff]; simp
     by_cases h1 : un = a2
     ·have e1 : (un == a2) = true := by simp [h1]
      have HX1 := Lib.hid (show lastU (fun u => decide (u.n = a2)) (T.us.take (j + 1)) = some ⟨un, unm, ub, uc⟩ from by rw [HSX.out, if_pos (decide_eq_true h1)])
      have HXB := Lib.hid HLJ.out.bx
      clear HSX h1
      go_upto_region 26 with (first | refine wpList_ldR rfl usrM HRG.out _ rfl rfl ?_ | (refine wpList_st (ds := #[.int .i64 un, .string (bstr unm), .int .i64 ub, .int .i64 uc]) rfl usrM HXB.out rfl (by simp [Value.oneCell']) _ _ rfl rfl rfl rfl ?_; intro w7 hB hM; have HB_w7 := Lib.hid hB; have HM_w7 := Lib.hid hM; clear hB hM))
      have HB7 := Lib.hid (show Blk w7 bx 42 (usrA ⟨un, unm, ub, uc⟩) from HB_w7.out)
      have HK7 := Lib.hid (HM_w7.out.keeps HLJ.out.kp (fun x hx => by have := HBX.out; omega))
      have HY7 := Lib.hid (HLJ.out.by'.mods HM_w7.out (by omega))
      have hbn : bs ≠ bx := by have h1 := HWB.out; have h2 := HBX.out; omega
      have HRG7 := Lib.hid (show w7.rangeAt bs (o + j * 4) [.int .i64 un, .string (bstr unm), .int .i64 ub, .int .i64 uc] from fun m v hm => HM_w7.out.cell (HRG.out m v hm) hbn)
      have c2 : w7.cell? ⟨c, 2, none⟩ = some (.slice (some ⟨bs, o, none⟩) T.us.length cu) := by rw [(HMd.out.blk.keeps HK7.out).cell]; rfl
      have a1' := HM_w7.out.cell a1' hbn
      clear HM_w7 HB_w7 HXB HRG a0 hbn
      by_cases h2 : unm = x
      ·have e2 : ((bstr unm).toList == (bstr x).toList) = true := by rw [heq]; exact decide_eq_true h2
       have HY1 := Lib.hid (show lastU (fun u => decide (u.name = x)) (T.us.take (j + 1)) = some ⟨un, unm, ub, uc⟩ from by rw [HSY.out, if_pos (decide_eq_true h2)])
       clear HSY h2 heq
       go_wp2_with (first | refine wpList_ldR rfl usrM HRG7.out _ rfl rfl ?_ | (refine wpList_st (ds := #[.int .i64 un, .string (bstr unm), .int .i64 ub, .int .i64 uc]) rfl usrM HY7.out rfl (by simp [Value.oneCell']) _ _ rfl rfl rfl rfl ?_; intro w8 hB hM; have HB_w8 := Lib.hid hB; have HM_w8 := Lib.hid hM; clear hB hM))
       go_roundw
       case rel =>
        refine ⟨j + 1, ⟨un, unm, ub, uc⟩, ⟨un, unm, ub, uc⟩, true, true, rfl, rfl, by simp, Lib.hid ⟨by omega, by rw [HX1.out]; rfl, by rw [HX1.out]; rfl, by rw [HY1.out]; rfl, by rw [HY1.out]; rfl, HB7.out.mods HM_w8.out (by omega), HB_w8.out, HM_w8.out.keeps HK7.out (fun x hx => by have := HBX.out; omega)⟩⟩
       case measure => simp only [RowKit.intOf]; omega
      ·have e2 : ((bstr unm).toList == (bstr x).toList) = false := by rw [heq]; exact decide_eq_false h2
       have HY1 := Lib.hid (show lastU (fun u => decide (u.name = x)) (T.us.take (j + 1)) = lastU (fun u => decide (u.name = x)) (T.us.take j) from by rw [HSY.out, if_neg (by simpa using h2)])
       clear HSY h2 heq
       go_wp2_with fail
       go_roundw
       case rel =>
        refine ⟨j + 1, ⟨un, unm, ub, uc⟩, Y, true, qb, rfl, rfl, by simp, Lib.hid ⟨by omega, by rw [HX1.out]; rfl, by rw [HX1.out]; rfl, by rw [HY1.out]; exact HLJ.out.y, by rw [HY1.out]; exact HLJ.out.q, HB7.out, HY7.out, HK7.out⟩⟩
       case measure => simp only [RowKit.intOf]; omega
     ·have e1 : (un == a2) = false := by simp [h1]
      have HX1 := Lib.hid (show lastU (fun u => decide (u.n = a2)) (T.us.take (j + 1)) = lastU (fun u => decide (u.n = a2)) (T.us.take j) from by rw [HSX.out, if_neg (by simpa using h1)])
      clear HSX h1
      have HB7 := Lib.hid HLJ.out.bx
      have HY7 := Lib.hid HLJ.out.by'
      have HK7 := Lib.hid HLJ.out.kp
      have HRG7 := Lib.hid HRG.out
      clear HRG
      go_upto_region 26 with fail
      by_cases h2 : unm = x
      ·have e2 : ((bstr unm).toList == (bstr x).toList) = true := by rw [heq]; exact decide_eq_true h2
       have HY1 := Lib.hid (show lastU (fun u => decide (u.name = x)) (T.us.take (j + 1)) = some ⟨un, unm, ub, uc⟩ from by rw [HSY.out, if_pos (decide_eq_true h2)])
       clear HSY h2 heq
       go_wp2_with (first | refine wpList_ldR rfl usrM HRG7.out _ rfl rfl ?_ | (refine wpList_st (ds := #[.int .i64 un, .string (bstr unm), .int .i64 ub, .int .i64 uc]) rfl usrM HY7.out rfl (by simp [Value.oneCell']) _ _ rfl rfl rfl rfl ?_; intro w8 hB hM; have HB_w8 := Lib.hid hB; have HM_w8 := Lib.hid hM; clear hB hM))
       go_roundw
       case rel =>
        refine ⟨j + 1, X, ⟨un, unm, ub, uc⟩, pb, true, rfl, rfl, by simp, Lib.hid ⟨by omega, by rw [HX1.out]; exact HLJ.out.x, by rw [HX1.out]; exact HLJ.out.p, by rw [HY1.out]; rfl, by rw [HY1.out]; rfl, HB7.out.mods HM_w8.out (by omega), HB_w8.out, HM_w8.out.keeps HK7.out (fun x hx => by have := HBX.out; omega)⟩⟩
       case measure => simp only [RowKit.intOf]; omega
      ·have e2 : ((bstr unm).toList == (bstr x).toList) = false := by rw [heq]; exact decide_eq_false h2
       have HY1 := Lib.hid (show lastU (fun u => decide (u.name = x)) (T.us.take (j + 1)) = lastU (fun u => decide (u.name = x)) (T.us.take j) from by rw [HSY.out, if_neg (by simpa using h2)])
       clear HSY h2 heq
       go_wp2_with fail
       go_roundw
       case rel =>
        refine ⟨j + 1, X, Y, pb, qb, rfl, rfl, by simp, Lib.hid ⟨by omega, by rw [HX1.out]; exact HLJ.out.x, by rw [HX1.out]; exact HLJ.out.p, by rw [HY1.out]; exact HLJ.out.y, by rw [HY1.out]; exact HLJ.out.q, HB7.out, HY7.out, HK7.out⟩⟩
       case measure => simp only [RowKit.intOf]; omega
    ·have hd : decide ((j : Int) < (T.us.length : Int)) = false := decide_eq_false (by omega)
     have HJE := Lib.hid (show j = T.us.length from by have := HLJ.out.lj; omega)
     obtain rfl : X = U1 := by rw [HLJ.out.x, HJE.out, List.take_length, HL1.out]; exact HU1.out.1
     obtain rfl : pb = B1 := by rw [HLJ.out.p, HJE.out, List.take_length, HL1.out]; exact HU1.out.2
     obtain rfl : Y = U2 := by rw [HLJ.out.y, HJE.out, List.take_length, HL2.out]; exact HU2.out.1
     obtain rfl : qb = B2 := by rw [HLJ.out.q, HJE.out, List.take_length, HL2.out]; exact HU2.out.2
     have HA1 := Lib.hid (HA1.out.keeps HLJ.out.kp)
     have HA2 := Lib.hid (HA2.out.keeps HLJ.out.kp)
     have HX9 := Lib.hid HLJ.out.bx
     have HY9 := Lib.hid HLJ.out.by'
     have HKD := Lib.hid (HK.out.trans ((HMd.out.keeps HLJ.out.kp).kp))
     clear HLJ HUR HMd HU1 HU2 HL1 HL2 HBX
     obtain ⟨n1, m1, l1, k1⟩ := X
     obtain ⟨n2, m2, l2, k2⟩ := Y
     unfold usrA at HX9 HY9
     simp only at HA1 HA2 HX9 HY9
     have s0 : wz.cell? ⟨p2, 0, none⟩ = some (.int .i64 n2) := by rw [HA2.out.cell]; rfl
     have s1 : wz.cell? ⟨p2, 1, none⟩ = some (.string (bstr m2)) := by rw [HA2.out.cell]; rfl
     have s2 : wz.cell? ⟨p2, 2, none⟩ = some (.int .i64 l2) := by rw [HA2.out.cell]; rfl
     have s3 : wz.cell? ⟨p2, 3, none⟩ = some (.int .i64 k2) := by rw [HA2.out.cell]; rfl
     have t0 : wz.cell? ⟨bx + 1, 0, none⟩ = some (.int .i64 n2) := by rw [HY9.out.cell]; rfl
     have t1 : wz.cell? ⟨bx + 1, 1, none⟩ = some (.string (bstr m2)) := by rw [HY9.out.cell]; rfl
     have t2 : wz.cell? ⟨bx + 1, 2, none⟩ = some (.int .i64 l2) := by rw [HY9.out.cell]; rfl
     have t3 : wz.cell? ⟨bx + 1, 3, none⟩ = some (.int .i64 k2) := by rw [HY9.out.cell]; rfl
     have CR := Lib.hid (Adr.rdomain_any dom (by have := HLE.out; omega) wz)
     rw [HDOM.out] at CR
     go_wp2_with (first | refine wpList_ld rfl usrM HA1.out _ rfl rfl ?_ | refine wpList_ld rfl usrM HX9.out _ rfl rfl ?_)
     refine CR.out.mono ?_
     rintro e w9 ⟨rfl, hk⟩
     have HKE := Lib.hid (HKD.out.trans hk)
     clear hk
     go_wp2_with fail
     go_ret
     exact ⟨by simp, HKE.out⟩
end Usr
end Go.Proofs.YtklbemkafdccgaaGreat
