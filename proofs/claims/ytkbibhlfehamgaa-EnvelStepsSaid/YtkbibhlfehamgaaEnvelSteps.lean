/- The law EnvelSteps, walked. Printed by gen_ensteps.py. -/
import Derived.Test.YtkbibhlfehamgaaK10
import Derived.Test.YtkbibhlfehamgaaEnAwake
import Derived.Test.YtkbibhlfehamgaaEnOpen
import Derived.Test.YtkbibhlfehamgaaK25
namespace Go.Proofs.Ytkbibhlfehamgaa
open Go.RowKit
namespace Env
open Adr (Str)
open Oct (u8ok)
open Rcd (i64ok)
open Frm (ownsRow_keeps ownsRow_mods ownsRow_ne ownsRow_form ownsRow_ty rowS_lit own_lit alloc_size RetSI wrapL cat whole)
theorem stepE_zero {k : Int} {x : StP} : stepE k x = 0 ↔ (0 ≤ k ∧ k ≤ 19) ∧ goodStB x = true := by
 unfold stepE inB
 by_cases h1 : 0 ≤ k <;> by_cases h2 : k ≤ 19 <;> cases goodStB x <;> simp [h1, h2]
set_option maxRecDepth 100000 in
set_option maxHeartbeats 40000000 in
theorem envelSteps_walk (W : World) (x : JobX) (v1 : Value) (ks : List Int) (v2 : Value) (ss : List StP) (cut : Int) (hx : JobOk W x) (w1 : ∀ n ∈ ks, (Lit.int .i64 n).wf = true) (r1 : Row W v1 (ks.map (.int .i64)))
  (r2 : RowS W 4 v2 ss.length (ss.flatMap stC)) (w2 : ∀ y ∈ ss, StOk y) (hc : (Lit.int .i64 cut).wf = true) : Calls Try.prog 4 #[.agg (jobC7 x).toArray, v1, v2, .int .i64 cut] W fun e w' => e = .returned (.bool true) ∧ Keeps W w' := by
 obtain ⟨⟨id1, arr1, fl1, fd1, T1, S1, B1⟩, vt1, vs1, vb1⟩ := x
 have hA := hx.at_
 have hts := hx.ts
 simp only at hA hts
 obtain ⟨pt1, ct1, rfl, -, -⟩ := hA.tos.form
 obtain ⟨ps1, cs1, rfl, -, -⟩ := hA.st.form
 obtain ⟨pb1, cb1, rfl, -, -⟩ := hA.body.formB
 obtain ⟨pk, ck, rfl, -, -⟩ := r1.form
 obtain ⟨px, cx, rfl, -, -⟩ := r2.form
 rw [List.length_map] at r1 ⊢
 have hcut : -9223372036854775808 ≤ cut ∧ cut ≤ 9223372036854775807 := by simpa [Lit.wf, IntKind.min, IntKind.max, IntKind.signed, IntKind.bits] using hc
 have HCT := Lib.hid hcut
 have HA := Lib.hid hA
 have HR1 := Lib.hid r1
 have HR2 := Lib.hid r2
 have HTS := Lib.hid hts
 clear hA hx r1 r2 hc w1 w2 hts hcut
 show Calls Try.prog 4 #[.agg (jobA ⟨id1, arr1, fl1, fd1, T1, S1, B1⟩ (.slice pt1 T1.length ct1) (.slice ps1 S1.length cs1) (.slice pb1 B1.length cb1)), .slice pk ks.length ck, .slice px ss.length cx, .int .i64 cut] W _
 have HB := Lib.hid (Blk.new W 29 (jobA ⟨id1, arr1, fl1, fd1, T1, S1, B1⟩ (.slice pt1 T1.length ct1) (.slice ps1 S1.length cs1) (.slice pb1 B1.length cb1)) rfl)
 have HK := Lib.hid ((Keeps.refl W).alloc (.cells (jobA ⟨id1, arr1, fl1, fd1, T1, S1, B1⟩ (.slice pt1 T1.length ct1) (.slice ps1 S1.length cs1) (.slice pb1 B1.length cb1)) 29))
 go_enter Try.func4, Try.ntmps4
 go_upto_region 1 with fail
 generalize W.alloc (.cells (jobA ⟨id1, arr1, fl1, fd1, T1, S1, B1⟩ (.slice pt1 T1.length ct1) (.slice ps1 S1.length cs1) (.slice pb1 B1.length cb1)) 29) = x1 at *
 obtain ⟨g, hg⟩ : ∃ z, W.heap.size = z := ⟨_, rfl⟩
 have HGW := Lib.hid (show W.heap.size ≤ g by omega)
 rw [hg] at HB ⊢
 clear hg
 go_wp2_with fail
 refine (awake15_any _).mono ?_
 rintro e x2 ⟨rfl, hk⟩
 have HK := Lib.hid (HK.out.trans hk)
 have HB := Lib.hid (HB.out.keeps hk)
 clear hk
 go_wp2_with (refine wpList_ld rfl jobM HB.out _ rfl rfl ?_)
 refine (light_any _ _ _ _ _ (HA.out.keeps HK.out)).mono ?_
 rintro e x3 ⟨l1, rfl, hl1, hk⟩
 have HK := Lib.hid (HK.out.trans hk)
 have HB := Lib.hid (HB.out.keeps hk)
 clear hk
 cases l1 with
 | false =>
  go_wp2_with fail
  go_ret
  exact ⟨rfl, HK.out⟩
 | true =>
 have HL1 := Lib.hid (hl1 rfl)
 clear hl1
 by_cases hk30 : 30 < ks.length
 ·have e1 : decide ((30 : Int) < (ks.length : Int)) = true := decide_eq_true (by omega)
  go_wp2_with fail
  go_ret
  exact ⟨rfl, HK.out⟩
 have ek : decide ((30 : Int) < (ks.length : Int)) = false := decide_eq_false (by omega)
 have hk31 : ks.length ≤ 30 := by omega
 clear hk30
 by_cases hs30 : 30 < ss.length
 ·have e1 : decide ((30 : Int) < (ss.length : Int)) = true := decide_eq_true (by omega)
  go_wp2_with fail
  go_ret
  exact ⟨rfl, HK.out⟩
 have es : decide ((30 : Int) < (ss.length : Int)) = false := decide_eq_false (by omega)
 have hs31 : ss.length ≤ 30 := by omega
 clear hs30
 have HSH := Lib.hid (show Short ⟨id1, arr1, fl1, fd1, T1, S1, B1⟩ from ⟨Nat.le_trans HL1.out.fl (by decide), Nat.le_trans HL1.out.fd (by decide), fun t ht => ⟨Nat.le_trans (HL1.out.all t ht).1 (by decide), Nat.le_trans (HL1.out.all t ht).2 (by decide), (HTS.out t ht).u⟩, Nat.le_trans HL1.out.tos (by decide), Nat.le_trans HL1.out.st (by decide), Nat.le_trans HL1.out.body (by decide)⟩)
 have CB := Lib.hid (fun (w : World) (k : Keeps W w) => bytes_any w ⟨id1, arr1, fl1, fd1, T1, S1, B1⟩ _ _ _ (HA.out.keeps k) HSH.out)
 have hTl : T1.length ≤ 30 := HL1.out.tos
 have hSl : S1.length ≤ 30 := HL1.out.st
 clear HL1
 cases hgj : goodJ ⟨id1, arr1, fl1, fd1, T1, S1, B1⟩ with
 | false =>
  have HBL := Lib.hid (show bytesL ⟨id1, arr1, fl1, fd1, T1, S1, B1⟩ = [] from by unfold bytesL; rw [hgj]; rfl)
  have HBE := Lib.hid (show bytesE ⟨id1, arr1, fl1, fd1, T1, S1, B1⟩ = 3 from by unfold bytesE; rw [hgj]; rfl)
  have CG := Lib.hid (fun (w : World) (k : Keeps W w) => goodJ_any w ⟨id1, arr1, fl1, fd1, T1, S1, B1⟩ _ _ _ (HA.out.keeps k) HSH.out)
  rw [hgj] at CG
  rw [HBE.out] at CB
  unfold RetSI at CB
  clear hgj
  go_wp2_with (refine wpList_ld rfl jobM HB.out _ rfl rfl ?_)
  refine (CB.out _ HK.out).mono ?_
  rintro e x4 ⟨bv, rfl, ho, hk⟩
  rw [HBL.out] at ho
  obtain ⟨pb, cb, rfl, -, -⟩ := ho.row.formB
  have HK := Lib.hid (HK.out.trans hk)
  have HB := Lib.hid (HB.out.keeps hk)
  clear hk ho CB
  have a0 : x4.cell? ⟨g, 0, none⟩ = some (.int .i64 id1) := by rw [HB.out.cell]; rfl
  have a1 : x4.cell? ⟨g, 1, none⟩ = some (.int .i64 arr1) := by rw [HB.out.cell]; rfl
  have a2 : x4.cell? ⟨g, 2, none⟩ = some (.string (bstr fl1)) := by rw [HB.out.cell]; rfl
  have a3 : x4.cell? ⟨g, 3, none⟩ = some (.string (bstr fd1)) := by rw [HB.out.cell]; rfl
  have a4 : x4.cell? ⟨g, 4, none⟩ = some (.slice pt1 T1.length ct1) := by rw [HB.out.cell]; rfl
  have a5 : x4.cell? ⟨g, 5, none⟩ = some (.slice ps1 S1.length cs1) := by rw [HB.out.cell]; rfl
  have a6 : x4.cell? ⟨g, 6, none⟩ = some (.slice pb1 B1.length cb1) := by rw [HB.out.cell]; rfl
  go_wp2_with fail
  refine (CG.out _ HK.out).mono ?_
  rintro e x5 ⟨rfl, hk⟩
  go_wp2_with fail
  go_ret
  exact ⟨rfl, HK.out.trans hk⟩
 | true =>
 have HGJ := Lib.hid hgj
 have HGN := Lib.hid (goodJ_n hgj)
 have HBC := Lib.hid (bytes_cat hgj)
 have HBE := Lib.hid (show bytesE ⟨id1, arr1, fl1, fd1, T1, S1, B1⟩ = 0 from by unfold bytesE; rw [hgj]; rfl)
 rw [HBE.out] at CB
 unfold RetSI at CB
 have HFL := Lib.hid (fun (M : List PS) (h : M.length ≤ 30) => show (cat (fz ⟨id1, arr1, fl1, fd1, T1, S1, B1⟩ M)).length ≤ 201410 from by have := fz_len HGN.out M; have : M.length * 47 ≤ 30 * 47 := Nat.mul_le_mul_right _ h; omega)
 clear hgj
 go_wp2_with (refine wpList_ld rfl jobM HB.out _ rfl rfl ?_)
 refine (CB.out _ HK.out).mono ?_
 rintro e x4 ⟨bv, rfl, ho, hk⟩
 obtain ⟨po0, co0, hbv, -, -⟩ := ho.row.formB
 obtain ⟨L0, hL0⟩ : ∃ z, (bytesL ⟨id1, arr1, fl1, fd1, T1, S1, B1⟩).length = z := ⟨_, rfl⟩
 rw [hL0] at hbv
 subst hbv
 have hL1 : L0 ≤ 201410 := by
  have := HFL.out [] (by decide)
  rw [fz_nil, ← HBC.out, hL0] at this
  exact this
 have HL0 := Lib.hid hL0
 obtain ⟨base, hbase⟩ : ∃ z, x3.heap.size = z := ⟨_, rfl⟩
 rw [hbase] at ho
 have HO0 := Lib.hid ho
 have HBW := Lib.hid (show W.heap.size ≤ base from by rw [← hbase]; exact HK.out.size)
 have HBL4 := Lib.hid (show base ≤ x4.heap.size from by rw [← hbase]; exact hk.size)
 have HK := Lib.hid (HK.out.trans hk)
 have HB := Lib.hid (HB.out.keeps hk)
 clear hk ho CB hL0 hbase
 have a5 : (x4.alloc (.cells #[] 44)).cell? ⟨g, 5, none⟩ = some (.slice ps1 S1.length cs1) := by rw [(HB.out.alloc (.cells #[] 44)).cell]; rfl
 have HZ0 := Lib.hid (show (x4.alloc (.cells #[] 44)).ownsRow base 44 4 (.slice (some ⟨x4.heap.size, 0, none⟩) 0 0) 0 [] from ⟨by simp, .inr ⟨x4.heap.size, 0, #[], rfl, HBL4.out, Blk.new _ _ _ rfl, Nat.le_refl _, by decide, by simp, by simp⟩⟩)
 have HZ1 := Lib.hid (show RowS (x4.alloc (.cells #[] 44)) 4 (.slice ps1 S1.length cs1) S1.length (S1.flatMap stC) from HA.out.st.keeps (HK.out.alloc _))
 have HZ2 := Lib.hid (show base ≤ (x4.alloc (.cells #[] 44)).heap.size from Nat.le_trans HBL4.out ((Keeps.refl x4).alloc (.cells #[] 44)).size)
 go_upto_region 11 with (at_builtin; refine wpList_apps (base := base) stok (by decide) rfl _ _ rfl (.slice (some ⟨x4.heap.size, 0, none⟩) 0 0) (.slice ps1 S1.length cs1) 0 S1.length [] (S1.flatMap stC) rfl rfl HZ0.out HZ1.out (oneCell_sts _) (by omega) (by decide) HZ2.out ?_; intro wv x5 ho5 hg5 hf5; rw [Nat.zero_add, List.nil_append] at ho5; obtain ⟨pw, cw, rfl, -, -⟩ := ownsRow_form ho5; have hk5 : Keeps x4 x5 := ((Keeps.refl _).alloc _).grown hg5 (fun x hx => by simp [Value.ownBlock] at hx; omega); have HST := Lib.hid (show StpSt W x5 g base ⟨id1, arr1, fl1, fd1, T1, S1, B1⟩ (.slice pt1 T1.length ct1) (.slice ps1 S1.length cs1) (.slice pb1 B1.length cb1) (.slice po0 L0 co0) (bytesL ⟨id1, arr1, fl1, fd1, T1, S1, B1⟩) (.slice pw S1.length cw) S1 from ⟨HB.out.keeps hk5, HO0.out.keeps hk5, ho5, HK.out.trans hk5, HGW.out, HBW.out, Nat.le_trans HBL4.out hk5.size⟩); clear ho5 hg5 hf5 hk5)
 clear a5 HZ0 HZ1 HZ2 HB HO0 HBL4 HK
 obtain ⟨tb, htb⟩ : ∃ b, decide (cut < (L0 : Int)) = b := ⟨_, rfl⟩
 have HTB := Lib.hid htb
 go_upto_if 59 with fail
 clear htb
 go_cut [3] (fun cv wx => ∃ c : Nat, cv = .int .i64 (c : Int) ∧ L0 ≤ c ∧ c ≤ 9223372036854775807 ∧ wx = x5)
 case first =>
  as_aux_lemma =>
  cases tb with
  | true =>
   go_wp2_with fail
   go_meet
   exact ⟨1099511627776, rfl, by omega, by omega, rfl⟩
  | false =>
   have hcl := of_decide_eq_false HTB.out
   go_wp2_with fail
   go_meet
   exact ⟨cut.toNat, by congr 1; omega, by omega, by have := HCT.out.2; omega, rfl⟩
 case rest =>
 obtain ⟨c, rfl, hc1, hc2, rfl⟩ := hcut
 have HS0 := Lib.hid (show StpI W g base ⟨id1, arr1, fl1, fd1, T1, S1, B1⟩ (.slice pt1 T1.length ct1) (.slice ps1 S1.length cs1) (.slice pb1 B1.length cb1) (.slice pw S1.length cw) c wc (.slice po0 L0 co0) L0 0 from by
  have := StpI.start (j := ⟨id1, arr1, fl1, fd1, T1, S1, B1⟩) HGJ.out (c := c) (by rw [HL0.out]; exact hc1) HST.out
  rwa [HL0.out] at this)
 have HLT := Lib.hid (show S1.length = T1.length from HGN.out.len)
 clear HST HCT HTB hc1 HL0 HGN
 obtain ⟨ci, hci⟩ : ∃ z : Int, (c : Int) = z := ⟨_, rfl⟩
 have HCI := Lib.hid hci
 rw [hci]
 clear hci
 go_wp2_with fail
 go_loopw [12, 14] (fun av iv wr => ∃ (i : Nat) (po : Option Addr) (co n : Nat), av = .slice po n co ∧ iv = .int .i64 (i : Int) ∧ i ≤ ks.length ∧ Hid (StpI W g base ⟨id1, arr1, fl1, fd1, T1, S1, B1⟩ (.slice pt1 T1.length ct1) (.slice ps1 S1.length cs1) (.slice pb1 B1.length cb1) (.slice pw S1.length cw) c wr (.slice po n co) n i)) (fun _ iv _ => ks.length - (intOf iv).toNat)
 case atStart => exact ⟨0, po0, co0, L0, rfl, rfl, Nat.zero_le _, HS0⟩
 case round =>
  obtain ⟨i, po, co, n, rfl, rfl, hi, HST⟩ := hrel
  obtain ⟨wz, rfl⟩ : ∃ z : World, z = wr := ⟨_, rfl⟩
  have hn1 : n ≤ 201410 := HST.out.le_n (by omega)
  obtain ⟨tb, htb⟩ : ∃ b, (decide (i < ks.length) && decide (i < ss.length)) = b := ⟨_, rfl⟩
  have HTB := Lib.hid htb
  clear htb HS0
  go_upto_region 14 with fail
  go_cut [69] (fun t wx => t = .bool tb ∧ wx = wz)
  case first =>
   as_aux_lemma =>
   by_cases h1 : i < ks.length
   ·by_cases h2 : i < ss.length
    ·have e2 := decide_eq_true h2
     have HX := Lib.hid (show tb = true from by rw [← HTB.out, decide_eq_true h1, e2]; rfl)
     clear h2
     go_wp2_with fail
     go_meet
     exact ⟨by rw [HX.out], rfl⟩
    ·have e2 := decide_eq_false h2
     have HX := Lib.hid (show tb = false from by rw [← HTB.out, decide_eq_true h1, e2]; rfl)
     clear h2
     go_wp2_with fail
     go_meet
     exact ⟨by rw [HX.out], rfl⟩
   ·have HX := Lib.hid (show tb = false from by rw [← HTB.out, decide_eq_false h1]; rfl)
    go_wp2_with fail
    go_meet
    exact ⟨by rw [HX.out], rfl⟩
  case rest =>
  obtain ⟨rfl, rfl⟩ := hcut
  obtain ⟨wz, rfl⟩ : ∃ z : World, z = wc := ⟨_, rfl⟩
  cases tb with
  | true =>
   have hlks : i < ks.length ∧ i < ss.length := by
    have := HTB.out
    simp only [Bool.and_eq_true, decide_eq_true_eq] at this
    omega
   obtain ⟨hlk, hls⟩ := hlks
   clear HTB
   have hw : IntKind.i64.wrap ((i : Int) + 1) = (i : Int) + 1 := IntWalk.i64_in _ (by omega)
   have hkc : ∃ b o, pk = some ⟨b, o, none⟩ ∧ W.cell? ⟨b, o + i, none⟩ = some (.int .i64 ks[i]) := by
    rcases HR1.out with ⟨a0, cap, h1, h2, -, -⟩ | ⟨b, off, cap, h1, h2, h3, h4⟩
    ·have := congrArg List.length h2; rw [List.length_map, List.length_nil] at this; omega
    ·simp only [Value.slice.injEq] at h1
     exact ⟨b, off, h1.1, h4 i _ (by simp [hlk])⟩
   obtain ⟨bk, ok, rfl, kcw⟩ := hkc
   obtain ⟨bs, os, cap, hv, hrg⟩ := rowS_at stC_len HR2.out hls
   simp only [Value.slice.injEq] at hv
   obtain ⟨rfl, -, rfl⟩ := hv
   obtain ⟨k, hk⟩ : ∃ z, ks[i] = z := ⟨_, rfl⟩
   rw [hk] at kcw
   clear hk
   generalize ss[i] = y at *
   obtain ⟨s, t, d, q⟩ := y
   have HRG := Lib.hid (show W.rangeAt bs (os + i * 4) [.int .i64 s, .int .i64 t, .int .i64 d, .int .i64 q] from hrg)
   have HKC := Lib.hid kcw
   have HCC := Lib.hid (fun (w : World) (hk : Keeps W w) => show w.cell? ⟨bk, ok + i, none⟩ = some (.int .i64 k) ∧ w.cell? ⟨bs, os + i * 4, none⟩ = some (.int .i64 s) ∧ w.cell? ⟨bs, os + i * 4 + 1, none⟩ = some (.int .i64 t) ∧ w.cell? ⟨bs, os + i * 4 + 2, none⟩ = some (.int .i64 d) ∧ w.cell? ⟨bs, os + i * 4 + 3, none⟩ = some (.int .i64 q) from
    ⟨keep1 hk HKC.out, keep1 hk (HRG.out 0 _ rfl), keep1 hk (HRG.out 1 _ rfl), keep1 hk (HRG.out 2 _ rfl), keep1 hk (HRG.out 3 _ rfl)⟩)
   clear hrg kcw HRG HKC
   obtain ⟨kc, y0, y1, y2, y3⟩ := HCC.out wz HST.out.keepsW
   have HEZ := Lib.hid (stepE_zero (k := k) (x := ⟨s, t, d, q⟩))
   have HSB := Lib.hid (show stepL k ⟨s, t, d, q⟩ = if stepE k ⟨s, t, d, q⟩ = 0 then wrapL 18 (stepP k.toNat ⟨s, t, d, q⟩) else [] from rfl)
   have CS := Lib.hid (fun (w : World) => stepS_any w k ⟨s, t, d, q⟩)
   generalize stepL k ⟨s, t, d, q⟩ = sb at *
   generalize stepE k ⟨s, t, d, q⟩ = ee at *
   unfold stA RetSI at CS
   have hlk' : (i : Int) < (ks.length : Int) := by omega
   have hls' : (i : Int) < (ss.length : Int) := by omega
   go_upto_region 16 with fail
   refine wp_region_noPanic ?_
   refine wp_region_held_drew (S := fun w' => Keeps (wz) w') (by kernel_rfl) ((Keeps.refl _).drew) (fun _ => ?_)
   have hHeld : Keeps (wz) (wz).drew := (Keeps.refl _).drew
   refine tq 0 73 ?_
   refine tq 1 74 ?_
   refine tq 2 75 ?_
   refine tq 3 76 ?_ (hy := fun w' hSw => by
    have hSw : Keeps _ w' := hSw
    have hx := keep1 hSw kc
    clear hSw
    go_simp
    try with_reducible rfl)
   refine tq 4 77 ?_
   refine tq 5 78 ?_
   refine tq 6 79 ?_
   refine tq 7 80 ?_ (hy := fun w' hSw => by
    have hSw : Keeps _ w' := hSw
    have h0 := keep1 hSw y0
    have h1 := keep1 hSw y1
    have h2 := keep1 hSw y2
    have h3 := keep1 hSw y3
    clear hSw
    go_simp
    try with_reducible rfl)
   refine rd1 8 (fun K hK => ?_)
   go_simp
   refine (CS.out _).mono ?_
   rintro e z1 ⟨sv, rfl, ho, hk⟩
   have hb : Keeps _ z1 := hHeld.trans hk
   obtain ⟨pz, cz, rfl, -, -⟩ := ho.row.formB
   have HOS := Lib.hid ho
   have HKZ := Lib.hid ((Keeps.refl wz).drew.trans hk)
   clear ho
   go_wp2_with fail
   refine bk1 hK hb ?_
   clear hK K hHeld hb hk
   intro hHeld
   refine tq 9 72 ?_
   refine tq 10 82 ?_
   refine tq 11 83 ?_
   refine tq 12 15 ?_
   refine tq 13 16 ?_
   refine wpAnyH_done (by kernel_rfl) ?_ _
   refine NoPanic.normal ?_
   have HST1 := Lib.hid (HST.out.kept HKZ.out)
   have kc1 := keep1 HKZ.out kc
   clear hHeld HST kc y0 y1 y2 y3 CS HKZ
   go_upto_region 17 with fail
   obtain ⟨skp, hskp⟩ : ∃ b, (!(decide (ee = 0) && decide (k < (T1.length : Int)))) = b := ⟨_, rfl⟩
   have HSK := Lib.hid hskp
   clear hskp
   have a4 : z1.cell? ⟨g, 4, none⟩ = some (.slice pt1 T1.length ct1) := by rw [HST1.out.blk.cell]; rfl
   go_cut [95] (fun t wx => t = .bool skp ∧ Keeps z1 wx)
   case first =>
    as_aux_lemma =>
    by_cases hE : ee = 0
    ·have e1 : (ee != 0) = false := by simp [hE]
     by_cases hkT : k < (T1.length : Int)
     ·have e2 : decide ((T1.length : Int) ≤ k) = false := decide_eq_false (by omega)
      have HX := Lib.hid (show skp = false from by rw [← HSK.out, decide_eq_true hE, decide_eq_true hkT]; rfl)
      clear hE
      refine wp_region_noPanic ?_
      refine wp_region_held_drew (S := fun w' => Keeps z1 w') (by kernel_rfl) (((Keeps.refl z1).drew)) (fun _ => ?_)
      have hHeld : Keeps z1 (z1).drew := ((Keeps.refl z1).drew)
      generalize World.drew z1 = xs at *
      refine tq 0 84 ?_
      refine tq 1 85 ?_
      refine tq 2 86 ?_
      refine tq 3 87 ?_
      refine tq 4 88 ?_
      refine tq 5 89 ?_
      refine tq 6 90 ?_ (hy := fun w' hSw => by
       have hSw : Keeps z1 w' := hSw
       have hx := keep1 hSw kc1
       clear hSw
       go_simp
       try with_reducible rfl)
      refine tq 7 91 ?_
      refine tq 8 92 ?_ (hy := fun w' hSw => by
       have hSw : Keeps z1 w' := hSw
       have hx := keep1 hSw a4
       clear hSw
       go_simp
       try with_reducible rfl)
      refine tq 9 93 ?_
      refine tq 10 94 ?_
      refine tq 11 95 ?_
      refine wpAnyH_done (by kernel_rfl) ?_ _
      refine NoPanic.normal ?_
      go_wp2_with fail
      go_meet
      exact ⟨by rw [HX.out], hHeld⟩
     ·have e2 : decide ((T1.length : Int) ≤ k) = true := decide_eq_true (by omega)
      have HX := Lib.hid (show skp = true from by rw [← HSK.out, decide_eq_false hkT]; simp)
      clear hE
      refine wp_region_noPanic ?_
      refine wp_region_held_drew (S := fun w' => Keeps z1 w') (by kernel_rfl) (((Keeps.refl z1).drew)) (fun _ => ?_)
      have hHeld : Keeps z1 (z1).drew := ((Keeps.refl z1).drew)
      generalize World.drew z1 = xs at *
      refine tq 0 84 ?_
      refine tq 1 85 ?_
      refine tq 2 86 ?_
      refine tq 3 87 ?_
      refine tq 4 88 ?_
      refine tq 5 89 ?_
      refine tq 6 90 ?_ (hy := fun w' hSw => by
       have hSw : Keeps z1 w' := hSw
       have hx := keep1 hSw kc1
       clear hSw
       go_simp
       try with_reducible rfl)
      refine tq 7 91 ?_
      refine tq 8 92 ?_ (hy := fun w' hSw => by
       have hSw : Keeps z1 w' := hSw
       have hx := keep1 hSw a4
       clear hSw
       go_simp
       try with_reducible rfl)
      refine tq 9 93 ?_
      refine tq 10 94 ?_
      refine tq 11 95 ?_
      refine wpAnyH_done (by kernel_rfl) ?_ _
      refine NoPanic.normal ?_
      go_wp2_with fail
      go_meet
      exact ⟨by rw [HX.out], hHeld⟩
    ·have e1 : (ee != 0) = true := by simp [hE]
     have HX := Lib.hid (show skp = true from by rw [← HSK.out, decide_eq_false hE]; rfl)
     clear hE
     refine wp_region_noPanic ?_
     refine wp_region_held_drew (S := fun w' => Keeps z1 w') (by kernel_rfl) (((Keeps.refl z1).drew)) (fun _ => ?_)
     have hHeld : Keeps z1 (z1).drew := ((Keeps.refl z1).drew)
     generalize World.drew z1 = xs at *
     refine tq 0 84 ?_
     refine tq 1 85 ?_
     refine tq 2 86 ?_
     refine wpAnyH_take (i := 3) (by rfl) (by kernel_rfl) (by kernel_rfl) (by kernel_rfl) (by intro _ _ _ h; exact h) (Or.inr ⟨by kernel_rfl, rfl⟩) (by assumption) ?rest41
     change wpAnyH _ _ _ _ _ _ _ (Act.put _ (some 87) _) _
     try simp only [Act.put, List.setIfInBounds_toArray, List.set_cons_zero, List.set_cons_succ]
     refine wpAnyH_take (i := 4) (by rfl) (by kernel_rfl) (by kernel_rfl) (by kernel_rfl) (by intro _ _ _ h; exact h) (Or.inr ⟨by kernel_rfl, rfl⟩) (by assumption) ?rest42
     change wpAnyH _ _ _ _ _ _ _ (Act.put _ (some 88) _) _
     try simp only [Act.put, List.setIfInBounds_toArray, List.set_cons_zero, List.set_cons_succ]
     refine wpAnyH_take (i := 5) (by rfl) (by kernel_rfl) (by kernel_rfl) (by kernel_rfl) (by intro _ _ _ h; exact h) (Or.inr ⟨by kernel_rfl, rfl⟩) (by assumption) ?rest43
     change wpAnyH _ _ _ _ _ _ _ (Act.put _ (some 89) _) _
     try simp only [Act.put, List.setIfInBounds_toArray, List.set_cons_zero, List.set_cons_succ]
     refine wpAnyH_take (i := 6) (by rfl) (by kernel_rfl) (by kernel_rfl) (by kernel_rfl) (by intro _ _ _ h; exact h) (Or.inr ⟨by kernel_rfl, rfl⟩) (by assumption) ?rest44
     change wpAnyH _ _ _ _ _ _ _ (Act.put _ (some 90) _) _
     try simp only [Act.put, List.setIfInBounds_toArray, List.set_cons_zero, List.set_cons_succ]
     refine wpAnyH_take (i := 7) (by rfl) (by kernel_rfl) (by kernel_rfl) (by kernel_rfl) (by intro _ _ _ h; exact h) (Or.inr ⟨by kernel_rfl, rfl⟩) (by assumption) ?rest45
     change wpAnyH _ _ _ _ _ _ _ (Act.put _ (some 91) _) _
     try simp only [Act.put, List.setIfInBounds_toArray, List.set_cons_zero, List.set_cons_succ]
     refine wpAnyH_take (i := 8) (by rfl) (by kernel_rfl) (by kernel_rfl) (by kernel_rfl) (by intro _ _ _ h; exact h) (Or.inr ⟨by kernel_rfl, rfl⟩) (by assumption) ?rest46
     change wpAnyH _ _ _ _ _ _ _ (Act.put _ (some 92) _) _
     try simp only [Act.put, List.setIfInBounds_toArray, List.set_cons_zero, List.set_cons_succ]
     refine wpAnyH_take (i := 9) (by rfl) (by kernel_rfl) (by kernel_rfl) (by kernel_rfl) (by intro _ _ _ h; exact h) (Or.inr ⟨by kernel_rfl, rfl⟩) (by assumption) ?rest47
     change wpAnyH _ _ _ _ _ _ _ (Act.put _ (some 93) _) _
     try simp only [Act.put, List.setIfInBounds_toArray, List.set_cons_zero, List.set_cons_succ]
     refine wpAnyH_take (i := 10) (by rfl) (by kernel_rfl) (by kernel_rfl) (by kernel_rfl) (by intro _ _ _ h; exact h) (Or.inr ⟨by kernel_rfl, rfl⟩) (by assumption) ?rest48
     change wpAnyH _ _ _ _ _ _ _ (Act.put _ (some 94) _) _
     try simp only [Act.put, List.setIfInBounds_toArray, List.set_cons_zero, List.set_cons_succ]
     refine tq 11 95 ?_
     refine wpAnyH_done (by kernel_rfl) ?_ _
     refine NoPanic.normal ?_
     go_wp2_with fail
     go_meet
     exact ⟨by rw [HX.out], hHeld⟩
   case rest =>
   obtain ⟨rfl, hkc⟩ := hcut
   obtain ⟨z2, rfl⟩ : ∃ z : World, z = wc := ⟨_, rfl⟩
   have HST2 := Lib.hid (HST1.out.kept hkc)
   have HOS2 := Lib.hid (HOS.out.row.keeps hkc)
   clear hkc HST1 HOS kc1 a4
   cases skp with
   | true =>
    go_wp2_with fail
    go_roundw
    case rel => exact ⟨i + 1, po, co, n, rfl, by simp, by omega, Lib.hid HST2.out.more⟩
    case measure =>
     simp only [intOf]
     omega
   | false =>
   have HKK := Lib.hid (show ee = 0 ∧ k < (T1.length : Int) from by
    have := HSK.out
    simp only [Bool.not_eq_false', Bool.and_eq_true, decide_eq_true_eq] at this
    exact this)
   have HGK := Lib.hid (HEZ.out.1 HKK.out.1)
   obtain ⟨kn, hkn⟩ : ∃ kn : Nat, k = (kn : Int) := ⟨k.toNat, by have := HGK.out.1.1; omega⟩
   subst hkn
   have hkT : kn < T1.length := by have := HKK.out.2; omega
   have HSBV := Lib.hid (show sb = wrapL 18 (stepP kn ⟨s, t, d, q⟩) from by rw [HSB.out, if_pos HKK.out.1]; rfl)
   have HOK := Lib.hid (show PsOk (⟨id1, arr1, fl1, fd1, T1, S1, B1⟩ : JobP).tos.length (kn, ⟨s, t, d, q⟩) from ⟨hkT, HGK.out.2⟩)
   have hsb : sb.length ≤ 1000 := by rw [HSBV.out]; have := wrap_le 18 (stepP kn ⟨s, t, d, q⟩); rw [stepP_14] at this; omega
   obtain ⟨O, hO, hown, hbz, hmore⟩ := HST2.out.bytes
   have HM := Lib.hid (hmore kn ⟨s, t, d, q⟩ sb)
   have HOW := Lib.hid hown
   have HOL := Lib.hid hO
   obtain ⟨n2, hn2⟩ : ∃ z, n + sb.length = z := ⟨_, rfl⟩
   have HN2 := Lib.hid hn2
   have hn3 : n2 ≤ 300000 := by omega
   have HOB := Lib.hid (show ((O.map u8v).length + (sb.map u8v).length) * 1 ≤ 70368744177664 from by rw [List.length_map, List.length_map, hO]; omega)
   clear HSK HKK HGK HSB HEZ hmore hown hO hn2
   go_upto_region 19 with (at_builtin; refine wpList_app1 (base := base) u8ok rfl _ _ rfl (.slice po n co) (.slice pz sb.length cz) (O.map u8v) (sb.map u8v) rfl rfl HOW.out HOS2.out (oneCell_map_u8 _) HOB.out (by decide) hbz ?_; intro v6 z3 ho6 hg6 hf6; rw [← List.map_append] at ho6; obtain ⟨p6, c6, hv6, -, -⟩ := ho6.row.formB; rw [List.length_append, HOL.out, HN2.out] at hv6; subst hv6; have HMM := Lib.hid (HM.out z3 (.slice p6 n2 c6) HOK.out HSBV.out hg6 ho6); clear ho6 hg6 hf6)
   rw [HN2.out] at HMM
   clear HM HOW HOS2 HST2 HOB
   by_cases hle : n2 ≤ c
   ·have e1 : decide ((n2 : Int) ≤ ci) = true := decide_eq_true (by have := HCI.out; omega)
    obtain ⟨kc, y0, y1, y2, y3⟩ := HCC.out z3 HMM.out.1
    obtain ⟨m, cur, rfl, hm, hBm, hcz, hin⟩ := HMM.out.2.2 hle pw S1.length cw rfl HLT.out
    have HIN := Lib.hid hin
    have r0 : z3.cell? ⟨m, kn * 4, none⟩ = some (cur[kn * 4]'(by omega)) := by rw [hBm.cell]; exact Array.getElem?_eq_getElem _
    have r1 : z3.cell? ⟨m, kn * 4 + 1, none⟩ = some (cur[kn * 4 + 1]'(by omega)) := by rw [hBm.cell]; exact Array.getElem?_eq_getElem _
    have r2 : z3.cell? ⟨m, kn * 4 + 2, none⟩ = some (cur[kn * 4 + 2]'(by omega)) := by rw [hBm.cell]; exact Array.getElem?_eq_getElem _
    have r3 : z3.cell? ⟨m, kn * 4 + 3, none⟩ = some (cur[kn * 4 + 3]'(by omega)) := by rw [hBm.cell]; exact Array.getElem?_eq_getElem _
    have g0 : z3.frozen? ⟨m, kn * 4, none⟩ = false := hBm.frozen _
    have g1 : z3.frozen? ⟨m, kn * 4 + 1, none⟩ = false := hBm.frozen _
    have g2 : z3.frozen? ⟨m, kn * 4 + 2, none⟩ = false := hBm.frozen _
    have g3 : z3.frozen? ⟨m, kn * 4 + 3, none⟩ = false := hBm.frozen _
    have hkS : (kn : Int) < (S1.length : Int) := by have := HLT.out; omega
    have hk0 : (0 : Int) ≤ (kn : Int) := by omega
    clear hin hm HMM
    go_upto_region 20 with fail
    go_still_tail 10, (by kernel_rfl)
    change wpList _ _ _ _ _ (World.drew _)
    go_wp2_with fail
    go_roundw
    case rel => exact ⟨i + 1, p6, c6, n2, rfl, by simp, by omega, HIN⟩
    case measure =>
     simp only [intOf]
     omega
   ·have e1 : decide ((n2 : Int) ≤ ci) = false := decide_eq_false (by have := HCI.out; omega)
    have HOUT := Lib.hid (HMM.out.2.1 hle)
    clear HMM
    go_wp2_with fail
    go_roundw
    case rel => exact ⟨i + 1, p6, c6, n2, rfl, by simp, by omega, HOUT⟩
    case measure =>
     simp only [intOf]
     omega
  | false =>
   as_aux_lemma =>
   obtain ⟨O, SB, us, mn, hmn, hOl, hco, hum, hsl, hrow, hread, hwant, hgw⟩ := HST.out.final
   have hsl : SB.length = S1.length := hsl
   have HUM := Lib.hid hum
   have HSBL := Lib.hid hsl
   have HWA := Lib.hid hwant
   have HK := Lib.hid HST.out.keepsW
   have HJ := Lib.hid HST.out.blk
   have hmin : (if (n : Int) < ci then (n : Int) else ci) = (mn : Int) := by have := HCI.out; split <;> omega
   obtain ⟨pc, hpc⟩ : ∃ pc, cutv po 0 mn co = .slice pc mn co := ⟨_, by unfold cutv; rw [Nat.sub_zero, Nat.sub_zero]⟩
   have hcutr : ∀ w', (Instr.slice 22 (.slice po n co) none (some (.int .i64 (mn : Int))) none).run Try.prog w' = .ok (.slice pc mn co) w' := fun w' => by
    rw [← hpc]
    exact run_cut_h w' Try.underlying22 (fun _ => rfl) po n co mn (by omega)
   rw [hpc] at hrow
   have CR := Lib.hid (read_any _ O wz hrow (by omega))
   rw [hread] at CR
   unfold ReadRet at CR
   clear hmn hpc hco hrow hread HTB hum hsl hOl hwant HST
   go_wp2_with fail
   refine CR.out.mono ?_
   rintro e z1 ⟨vt, vs, vb, rfl, hat, hk⟩
   obtain ⟨pt2, ct2, rfl, -, -⟩ := hat.tos.form
   obtain ⟨ps2, cs2, rfl, -, -⟩ := hat.st.form
   obtain ⟨pb2, cb2, rfl, -, -⟩ := hat.body.formB
   simp only at hat ⊢
   rw [HSBL.out] at hat ⊢
   have HG := Lib.hid hat
   have HJ1 := Lib.hid (HJ.out.keeps hk)
   have HWA1 := Lib.hid (ownsRow_keeps HWA.out hk)
   have HK1 := Lib.hid (HK.out.trans hk)
   clear hat hk HJ HWA HK CR hcutr
   go_upto_region 22 with fail
   generalize hW : World.alloc z1 _ = z2
   obtain ⟨gX, hgX⟩ : ∃ z, z = z1.heap.size := ⟨_, rfl⟩
   have HXB := Lib.hid (show Blk z2 gX 29 (jobA ⟨id1, arr1, fl1, fd1, T1, SB, B1⟩ (.slice pt2 T1.length ct2) (.slice ps2 S1.length cs2) (.slice pb2 B1.length cb2)) from by rw [← hW]; exact Blk.new _ _ _ hgX)
   have hkz : Keeps z1 z2 := by rw [← hW]; exact (Keeps.refl _).alloc _
   have HGX := Lib.hid (show gX ≠ g from fun e => by have := HJ1.out.lt; omega)
   have HG2 := Lib.hid (HG.out.keeps hkz)
   have HJ2 := Lib.hid (HJ1.out.keeps hkz)
   have HWA2 := Lib.hid (ownsRow_keeps HWA1.out hkz)
   have HK2 := Lib.hid (HK1.out.trans hkz)
   clear hW hkz HG HJ1 HWA1 HK1
   rw [← hgX]
   clear hgX
   have a5 : z2.cell? ⟨g, 5, none⟩ = some (.slice ps1 S1.length cs1) := by rw [HJ2.out.cell]; rfl
   have f5 : z2.frozen? ⟨g, 5, none⟩ = false := HJ2.out.frozen _
   have HG3 := Lib.hid (JobAt.set_slice HG2.out a5 (.slice pw S1.length cw))
   have HM3 := Lib.hid (show Mods (· = g) z2 (z2.setCell ⟨g, 5, none⟩ (.slice pw S1.length cw)) from (Mods.refl (· = g) z2).setCell (p := ⟨g, 5, none⟩) (fun _ => rfl) _)
   have HXB3 := Lib.hid (HXB.out.far (p := ⟨g, 5, none⟩) HGX.out (.slice pw S1.length cw))
   have HJB3 := Lib.hid (HJ2.out.set_ 5 (.slice pw S1.length cw))
   have HK3 := Lib.hid (HM3.out.keeps HK2.out (fun x hx => by rw [hx]; exact HGW.out))
   have HW3 := Lib.hid (ownsRow_mods HWA2.out HM3.out (fun x hx e => ownsRow_ne HWA2.out HJ2.out (by decide) (by rw [hx, e])))
   go_upto_region 23 with fail
   generalize z2.setCell ⟨g, 5, none⟩ (.slice pw S1.length cw) = z3 at *
   clear a5 f5 HM3 HG2 HJ2 HXB HGX HWA2 HK2
   have HA3 := Lib.hid (show JobAt z3 ⟨id1, arr1, fl1, fd1, T1, SB, B1⟩ (.slice pt1 T1.length ct1) (.slice pw S1.length cw) (.slice pb1 B1.length cb1) from ⟨HA.out.tos.keeps HK3.out, rowS_own HW3.out, HA.out.body.keeps HK3.out⟩)
   have hus : decide ((us : Int) ≤ (mn : Int)) = true := decide_eq_true (by have := HUM.out; omega)
   have HTL := Lib.hid (show T1.length ≤ 1000000 by omega)
   have HSL := Lib.hid (show SB.length ≤ 1000000 by rw [HSBL.out]; omega)
   have x0 : z3.cell? ⟨gX, 0, none⟩ = some (.int .i64 id1) := by rw [HXB3.out.cell]; rfl
   have x1 : z3.cell? ⟨gX, 1, none⟩ = some (.int .i64 arr1) := by rw [HXB3.out.cell]; rfl
   have x2 : z3.cell? ⟨gX, 2, none⟩ = some (.string (bstr fl1)) := by rw [HXB3.out.cell]; rfl
   have x3 : z3.cell? ⟨gX, 3, none⟩ = some (.string (bstr fd1)) := by rw [HXB3.out.cell]; rfl
   have x4 : z3.cell? ⟨gX, 4, none⟩ = some (.slice pt2 T1.length ct2) := by rw [HXB3.out.cell]; rfl
   have x5 : z3.cell? ⟨gX, 5, none⟩ = some (.slice ps2 S1.length cs2) := by rw [HXB3.out.cell]; rfl
   have x6 : z3.cell? ⟨gX, 6, none⟩ = some (.slice pb2 B1.length cb2) := by rw [HXB3.out.cell]; rfl
   have a0 : z3.cell? ⟨g, 0, none⟩ = some (.int .i64 id1) := by rw [HJB3.out.cell]; rfl
   have a1 : z3.cell? ⟨g, 1, none⟩ = some (.int .i64 arr1) := by rw [HJB3.out.cell]; rfl
   have a2 : z3.cell? ⟨g, 2, none⟩ = some (.string (bstr fl1)) := by rw [HJB3.out.cell]; rfl
   have a3 : z3.cell? ⟨g, 3, none⟩ = some (.string (bstr fd1)) := by rw [HJB3.out.cell]; rfl
   have a4 : z3.cell? ⟨g, 4, none⟩ = some (.slice pt1 T1.length ct1) := by rw [HJB3.out.cell]; rfl
   have a5 : z3.cell? ⟨g, 5, none⟩ = some (.slice pw S1.length cw) := by rw [HJB3.out.cell]; rfl
   have a6 : z3.cell? ⟨g, 6, none⟩ = some (.slice pb1 B1.length cb1) := by rw [HJB3.out.cell]; rfl
   go_wp2_with fail
   refine (same_any _ ⟨id1, arr1, fl1, fd1, T1, SB, B1⟩ ⟨id1, arr1, fl1, fd1, T1, SB, B1⟩ _ _ _ _ _ _ HG3.out HA3.out HTL.out HSL.out).mono ?_
   rintro e z4 ⟨rfl, hk⟩
   rw [decide_eq_true rfl]
   have HK4 := Lib.hid (HK3.out.trans hk)
   have HG4 := Lib.hid (HG3.out.keeps hk)
   have HA4 := Lib.hid (HA3.out.keeps hk)
   have HXB4 := Lib.hid (HXB3.out.keeps hk)
   have HJB4 := Lib.hid (HJB3.out.keeps hk)
   clear hk x0 a0 x1 a1 x2 a2 x3 a3 x4 a4 x5 a5 x6 a6 HG3 HA3
   have x0 : z4.cell? ⟨gX, 0, none⟩ = some (.int .i64 id1) := by rw [HXB4.out.cell]; rfl
   have x1 : z4.cell? ⟨gX, 1, none⟩ = some (.int .i64 arr1) := by rw [HXB4.out.cell]; rfl
   have x2 : z4.cell? ⟨gX, 2, none⟩ = some (.string (bstr fl1)) := by rw [HXB4.out.cell]; rfl
   have x3 : z4.cell? ⟨gX, 3, none⟩ = some (.string (bstr fd1)) := by rw [HXB4.out.cell]; rfl
   have x4 : z4.cell? ⟨gX, 4, none⟩ = some (.slice pt2 T1.length ct2) := by rw [HXB4.out.cell]; rfl
   have x5 : z4.cell? ⟨gX, 5, none⟩ = some (.slice ps2 S1.length cs2) := by rw [HXB4.out.cell]; rfl
   have x6 : z4.cell? ⟨gX, 6, none⟩ = some (.slice pb2 B1.length cb2) := by rw [HXB4.out.cell]; rfl
   have a0 : z4.cell? ⟨g, 0, none⟩ = some (.int .i64 id1) := by rw [HJB4.out.cell]; rfl
   have a1 : z4.cell? ⟨g, 1, none⟩ = some (.int .i64 arr1) := by rw [HJB4.out.cell]; rfl
   have a2 : z4.cell? ⟨g, 2, none⟩ = some (.string (bstr fl1)) := by rw [HJB4.out.cell]; rfl
   have a3 : z4.cell? ⟨g, 3, none⟩ = some (.string (bstr fd1)) := by rw [HJB4.out.cell]; rfl
   have a4 : z4.cell? ⟨g, 4, none⟩ = some (.slice pt1 T1.length ct1) := by rw [HJB4.out.cell]; rfl
   have a5 : z4.cell? ⟨g, 5, none⟩ = some (.slice pw S1.length cw) := by rw [HJB4.out.cell]; rfl
   have a6 : z4.cell? ⟨g, 6, none⟩ = some (.slice pb1 B1.length cb1) := by rw [HJB4.out.cell]; rfl
   go_wp2_with fail
   refine (rsame_any _ ⟨id1, arr1, fl1, fd1, T1, SB, B1⟩ ⟨id1, arr1, fl1, fd1, T1, SB, B1⟩ _ _ _ _ _ _ HG4.out HA4.out HTL.out HSL.out).mono ?_
   rintro e z5 ⟨rfl, hk⟩
   rw [decide_eq_true rfl]
   go_wp2_with fail
   go_ret
   exact ⟨rfl, HK4.out.trans hk⟩
end Env
end Go.Proofs.Ytkbibhlfehamgaa
