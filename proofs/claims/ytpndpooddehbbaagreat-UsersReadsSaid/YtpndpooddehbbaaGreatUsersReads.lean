/- The law UsersReads. -/
import Derived.Test.YtpndpooddehbbaaGreatK44
import Derived.Test.YtpndpooddehbbaaGreatUsLower
import Derived.Test.YtpndpooddehbbaaGreatK00
namespace Go.Proofs.YtpndpooddehbbaaGreat
open Go.RowKit
namespace Usr
open Adr (Str domainB goodB)
open Frm (str_at')
open Mp Go.Maps
theorem s5u : ∀ w, (sizeOf 5).run Tryz.prog w = .ok 1 w := fun _ => by kernel_rfl
theorem readT_why {l : Str} {e : Int} (h : readT l = (none, e)) : e = 2 ∨ e = 3 := by
 unfold readT at h
 split at h
 ·simp only [Prod.mk.injEq, true_and] at h
  rw [← h]
  split
  ·exact .inl rfl
  ·exact .inr rfl
 ·split at h
  ·simp at h
  ·simp only [Prod.mk.injEq, true_and] at h
   exact .inr h.symm
set_option maxRecDepth 100000 in
set_option maxHeartbeats 4000000 in
theorem usersReads_walk (W : World) (v0 : Value) (l : List UInt8) (cut : Int) (r0 : Row W v0 (l.map u8v)) (w1 : (Lit.int .i64 cut).wf = true) : Calls Tryz.prog 3 #[v0, .int .i64 cut] W fun e w' => e = .returned (.bool true) ∧ Keeps W w' := by
 obtain ⟨p, cap, rfl, hcap, hcm⟩ := r0.formB
 have HR := Lib.hid r0
 have CA := Lib.hid (awake13_any W)
 clear r0 w1
 go_enter Tryz.func3, Tryz.ntmps3
 go_wp2_with fail
 refine CA.out.mono ?_
 rintro e w1 ⟨rfl, hk⟩
 have HK := Lib.hid hk
 clear hk CA
 by_cases h1000 : 1000 < l.length
 ·have e1 : decide ((1000 : Int) < (l.length : Int)) = true := decide_eq_true (by omega)
  go_wp2_with fail
  go_ret
  exact ⟨rfl, HK.out⟩
 have e1 : decide ((1000 : Int) < (l.length : Int)) = false := decide_eq_false (by omega)
 have CR := Lib.hid (read_any w1 (.slice p l.length cap) l (HR.out.keeps HK.out) (by omega))
 unfold ReadDid at CR
 obtain ⟨o, er, hr⟩ : ∃ o er, readT l = (o, er) := ⟨_, _, rfl⟩
 rw [hr] at CR
 have HRD := Lib.hid hr
 clear hr
 go_wp2_with fail
 refine CR.out.mono ?_
 rintro e w2 ⟨hk, ⟨t, g, b1, b2, ho, rfl, hb, hT⟩ | ⟨ho, rfl⟩⟩
 rotate_left
 ·obtain rfl : o = none := ho
  have HK2 := Lib.hid (HK.out.trans hk)
  rcases readT_why HRD.out with rfl | rfl
  ·go_wp2_with fail
   go_ret
   exact ⟨rfl, HK2.out⟩
  ·go_wp2_with fail
   go_ret
   exact ⟨rfl, HK2.out⟩
 obtain rfl : o = some t := ho
 have HK2 := Lib.hid (HK.out.trans hk)
 have HT := Lib.hid hT
 obtain ⟨rfl, hbt, hst⟩ := readT_some HRD.out
 have HRG := Lib.hid (readT_right HRD.out)
 have HCT := Lib.hid (fun c (hc : c < l.length) => readT_cut HRD.out hc)
 have HD := Lib.hid (show t.dom.length ≤ 1000000 from by
  have h1 : (bytesT t).length = l.length := by rw [hbt]
  unfold bytesT Env.textB at h1
  simp only [List.length_append] at h1
  omega)
 have HBT := Lib.hid hbt
 clear hk hb hT hbt hst CR
 go_upto_region 8 with fail
 have CB := Lib.hid (fun w' (h : TabAt w' g b1 b2 1000 t) => bytes_any w' g b1 b2 1000 t h HRG.out (by omega) HD.out)
 rw [HBT.out] at CB
 have htest : ((bstr l).toList == (bstr l).toList) = true := by simp
 go_cut [38] (fun bv wx => bv = .bool false ∧ Hid (Keeps w2 wx))
 case first =>
  refine wp_region_noPanic ?_
  refine wp_region_held_drew (S := fun w' => Keeps (w2) w') (by kernel_rfl) ((Keeps.refl _).drew) (fun _ => ?_)
  have hHeld : Keeps (w2) (w2).drew := (Keeps.refl _).drew
  refine tq 0 29 ?_
  refine tq 1 30 ?_
  refine tq 2 31 ?_
  refine tq 3 32 ?_
  refine tq 6 35 ?_
  refine tq 7 36 ?_ (hy := fun w' hSw => by
   have hSw : Keeps _ w' := hSw
   have hc := str_at' (HR.out.keeps (HK2.out.trans hSw))
   clear hSw
   go_simp
   try with_reducible rfl)
  refine rd1 4 (fun K hK => ?_)
  go_simp
  refine (CB.out _ (HT.out.keeps hHeld)).mono ?_
  rintro e yB ⟨vb, rfl, hob, hk⟩
  have hb : Keeps _ yB := hHeld.trans hk
  have HRow := Lib.hid hob.row
  have HY := Lib.hid (hHeld.trans hk)
  obtain ⟨pB, nB, cB, rfl⟩ := hob.sl
  clear hob
  go_wp2_with fail
  refine bk1 hK hb ?_
  clear hK K hHeld hb hk
  intro hHeld
  refine tq 5 34 ?_ (hy := fun w' hSw => by
   have hSw : Keeps _ w' := hSw
   have hc := str_at' (HRow.out.keeps hSw)
   clear hSw
   go_simp
   try with_reducible rfl)
  refine tq 8 37 ?_
  refine tq 9 38 ?_
  refine wpAnyH_done (by kernel_rfl) ?_ _
  refine NoPanic.normal ?_
  go_wp2_with fail
  go_meet
  exact ⟨rfl, Lib.hid (HY.out.trans hHeld)⟩
 case rest =>
 obtain ⟨rfl, HKc⟩ := hcut
 obtain ⟨w3, rfl⟩ : ∃ z : World, z = wc := ⟨_, rfl⟩
 have HT := Lib.hid (HT.out.keeps HKc.out)
 have HK := Lib.hid (HK2.out.trans HKc.out)
 clear HKc HK2 CB htest
 have CU := Lib.hid (users_any w3 g b1 b2 1000 t HT.out HRG.out)
 have hul := HRG.out.ul
 go_wp2_with fail
 refine CU.out.mono ?_
 rintro e w4 ⟨vu, rfl, hou, hk⟩
 obtain ⟨pu, cu, rfl, -, -⟩ := Frm.ownsRow_form hou
 have HO := Lib.hid hou
 have HK := Lib.hid (HK.out.trans hk)
 clear hou hk CU HT
 go_wp2_with fail
 go_loopw [8] (fun iv wr => ∃ j : Nat, iv = .int .i64 (j : Int) ∧ j ≤ t.us.length ∧ Hid (Keeps w4 wr)) (fun iv _ => t.us.length - (RowKit.intOf iv).toNat)
 case atStart => exact ⟨0, rfl, Nat.zero_le _, Lib.hid (Keeps.refl _)⟩
 case round =>
  obtain ⟨j, rfl, hj, HKr⟩ := hrel
  obtain ⟨wz, rfl⟩ : ∃ z : World, z = wr := ⟨_, rfl⟩
  have hw : IntKind.i64.wrap ((j : Int) + 1) = (j : Int) + 1 := IntWalk.i64_in _ (by omega)
  by_cases hlt : j < t.us.length
  ·have hd : decide ((j : Int) < (t.us.length : Int)) = true := decide_eq_true (by omega)
   obtain ⟨gl, cap', hv, -, -, -, hc⟩ := Frm.ownsRow_at (Frm.ownsRow_keeps HO.out HKr.out) (by omega)
   simp only [Value.slice.injEq] at hv
   obtain ⟨rfl, -, rfl⟩ := hv
   have us_at' : ∀ i (hi : i < t.us.length) k, k < 4 → (t.us.flatMap usC)[i * 4 + k]? = (usC t.us[i])[k]? := fun i hi k hk => flat_get usC_len t.us i k _ (List.getElem?_eq_getElem hi) hk
   have hun := HRG.out.un _ (List.getElem_mem hlt)
   have hlo := HRG.out.lo _ (List.getElem_mem hlt)
   have hnx := HRG.out.nx
   have HZ := Lib.hid (show ∀ i, i + 1 = j → ∃ (hi : i < t.us.length), t.us[i].n < t.us[j].n ∧ wz.cell? ⟨gl, i * 4, none⟩ = some (.int .i64 t.us[i].n) from fun i h0 => ⟨by omega, List.pairwise_iff_getElem.1 HRG.out.num i j (by omega) hlt (by omega), hc _ _ (by have := us_at' i (by omega) 0 (by decide); rw [Nat.add_zero] at this; rw [this]; rfl)⟩)
   have a0 : wz.cell? ⟨gl, j * 4, none⟩ = some (.int .i64 t.us[j].n) := hc _ _ (by have := us_at' j hlt 0 (by decide); rw [Nat.add_zero] at this; rw [this]; rfl)
   have a1 : wz.cell? ⟨gl, j * 4 + 1, none⟩ = some (.string (bstr t.us[j].name)) := hc _ _ (by rw [us_at' j hlt 1 (by decide)]; rfl)
   have CN := Lib.hid (fun w' => rName_any t.us[j].name (by have := (nameB_len hun.1).1; omega) w')
   rw [hun.1] at CN
   have CN := Lib.hid (fun w' => (CN.out w').mono (fun e w'' h => (⟨h.1, h.2 ▸ Keeps.refl _⟩ : e = .returned (.bool true) ∧ Keeps w' w'')))
   have e2 : decide (t.us[j].n < 1) = false := decide_eq_false (by omega)
   have e3 : decide ((999 : Int) < t.us[j].n) = false := decide_eq_false (by omega)
   generalize t.us[j].n = un at *
   generalize t.us[j].name = nm at *
   clear hc us_at' hun hlo hnx
   go_upto_region 14 with fail
   go_cut [87] (fun bv wx => bv = .bool false ∧ Hid (Keeps wz wx))
   case first =>
    by_cases h0 : 0 < j
    ·have e4 : decide ((0 : Int) < (j : Int)) = true := decide_eq_true (by omega)
     have e4' : decide (0 < j) = true := decide_eq_true h0
     obtain ⟨i, hi⟩ : ∃ i, i + 1 = j := ⟨j - 1, by omega⟩
     obtain ⟨hil, hpv, hz⟩ := HZ.out i hi
     have hwi : IntKind.i64.wrap ((j : Int) - 1) = (i : Int) := by rw [show (j : Int) - 1 = (i : Int) from by omega]; exact IntWalk.i64_in _ (by omega)
     have HI := Lib.hid hi
     generalize t.us[i].n = um at *
     have e5 : decide (un ≤ um) = false := decide_eq_false (by omega)
     clear hpv hi
     refine wp_region_noPanic ?_
     refine wp_region_held_drew (S := fun w' => Keeps (wz) w') (by kernel_rfl) ((Keeps.refl _).drew) (fun _ => ?_)
     have hHeld : Keeps (wz) (wz).drew := (Keeps.refl _).drew
     refine tq 0 47 ?_
     refine tq 1 48 ?_
     refine tq 2 49 ?_
     refine tq 3 50 ?_
     refine tq 4 51 ?_ (hy := fun w' hSw => by
      have hSw : Keeps _ w' := hSw
      have h0 := keep1 hSw a1
      clear hSw
      go_simp
      try with_reducible rfl)
     refine rd1 5 (fun K hK => ?_)
     go_simp
     refine (CN.out _).mono ?_
     rintro e yN ⟨rfl, hk⟩
     have hb : Keeps _ yN := hHeld.trans hk
     have HYN := Lib.hid (hHeld.trans hk)
     go_wp2_with fail
     refine bk1 hK hb ?_
     clear hK K hHeld hb hk
     intro hHeld
     refine tq 6 53 ?_
     refine tq 7 54 ?_
     refine tq 8 55 ?_
     refine tq 9 56 ?_
     refine tq 10 57 ?_
     refine tq 11 58 ?_
     refine tq 12 59 ?_ (hy := fun w' hSw => by
      have hSw : Keeps _ w' := hSw
      have h0 := keep1 (HYN.out.trans hSw) a0
      clear hSw
      go_simp
      try with_reducible rfl)
     refine tq 13 60 ?_
     refine tq 14 61 ?_
     refine tq 15 62 ?_
     refine tq 16 63 ?_
     refine tq 17 64 ?_
     refine tq 18 65 ?_
     refine tq 19 66 ?_
     refine tq 20 67 ?_ (hy := fun w' hSw => by
      have hSw : Keeps _ w' := hSw
      have h0 := keep1 (HYN.out.trans hSw) a0
      clear hSw
      go_simp
      try with_reducible rfl)
     refine tq 21 68 ?_
     refine tq 22 69 ?_
     refine tq 23 70 ?_
     refine tq 24 71 ?_
     refine tq 25 72 ?_
     refine tq 26 73 ?_
     refine tq 27 74 ?_
     refine tq 28 75 ?_
     refine tq 29 76 ?_
     refine tq 30 77 ?_
     refine tq 31 78 ?_
     refine tq 32 79 ?_ (hy := fun w' hSw => by
      have hSw : Keeps _ w' := hSw
      have h0 := keep1 (HYN.out.trans hSw) hz
      clear hSw
      go_simp
      try with_reducible rfl)
     refine tq 33 80 ?_
     refine tq 34 81 ?_
     refine tq 35 82 ?_
     refine tq 36 83 ?_
     refine tq 37 84 ?_ (hy := fun w' hSw => by
      have hSw : Keeps _ w' := hSw
      have h0 := keep1 (HYN.out.trans hSw) a0
      clear hSw
      go_simp
      try with_reducible rfl)
     refine tq 38 85 ?_
     refine tq 39 86 ?_
     refine tq 40 87 ?_
     refine wpAnyH_done (by kernel_rfl) ?_ _
     refine NoPanic.normal ?_
     go_wp2_with fail
     go_meet
     exact ⟨rfl, Lib.hid (HYN.out.trans hHeld)⟩
    ·have e4 : decide ((0 : Int) < (j : Int)) = false := decide_eq_false (by omega)
     have e4' : decide (0 < j) = false := decide_eq_false h0
     clear h0
     refine wp_region_noPanic ?_
     refine wp_region_held_drew (S := fun w' => Keeps (wz) w') (by kernel_rfl) ((Keeps.refl _).drew) (fun _ => ?_)
     have hHeld : Keeps (wz) (wz).drew := (Keeps.refl _).drew
     refine tq 0 47 ?_
     refine tq 1 48 ?_
     refine tq 2 49 ?_
     refine tq 3 50 ?_
     refine tq 4 51 ?_ (hy := fun w' hSw => by
      have hSw : Keeps _ w' := hSw
      have h0 := keep1 hSw a1
      clear hSw
      go_simp
      try with_reducible rfl)
     refine rd1 5 (fun K hK => ?_)
     go_simp
     refine (CN.out _).mono ?_
     rintro e yN ⟨rfl, hk⟩
     have hb : Keeps _ yN := hHeld.trans hk
     have HYN := Lib.hid (hHeld.trans hk)
     go_wp2_with fail
     refine bk1 hK hb ?_
     clear hK K hHeld hb hk
     intro hHeld
     refine tq 6 53 ?_
     refine tq 7 54 ?_
     refine tq 8 55 ?_
     refine tq 9 56 ?_
     refine tq 10 57 ?_
     refine tq 11 58 ?_
     refine tq 12 59 ?_ (hy := fun w' hSw => by
      have hSw : Keeps _ w' := hSw
      have h0 := keep1 (HYN.out.trans hSw) a0
      clear hSw
      go_simp
      try with_reducible rfl)
     refine tq 13 60 ?_
     refine tq 14 61 ?_
     refine tq 15 62 ?_
     refine tq 16 63 ?_
     refine tq 17 64 ?_
     refine tq 18 65 ?_
     refine tq 19 66 ?_
     refine tq 20 67 ?_ (hy := fun w' hSw => by
      have hSw : Keeps _ w' := hSw
      have h0 := keep1 (HYN.out.trans hSw) a0
      clear hSw
      go_simp
      try with_reducible rfl)
     refine tq 21 68 ?_
     refine tq 22 69 ?_
     refine tq 23 70 ?_
     refine tq 24 71 ?_
     refine tq 25 72 ?_
     refine tq 26 73 ?_
     refine wpAnyH_take (i := 27) (v := undef) (by rfl) (by kernel_rfl) (by kernel_rfl) (by kernel_rfl) (by intro _ _ _ h; exact h) (Or.inr ⟨by kernel_rfl, rfl⟩) (by assumption) ?rest76
     change wpAnyH _ _ _ _ _ _ _ (Act.put _ (some 74) _) _
     try simp only [Act.put, List.setIfInBounds_toArray, List.set_cons_zero, List.set_cons_succ]
     refine wpAnyH_take (i := 28) (v := undef) (by rfl) (by kernel_rfl) (by kernel_rfl) (by kernel_rfl) (by intro _ _ _ h; exact h) (Or.inr ⟨by kernel_rfl, rfl⟩) (by assumption) ?rest77
     change wpAnyH _ _ _ _ _ _ _ (Act.put _ (some 75) _) _
     try simp only [Act.put, List.setIfInBounds_toArray, List.set_cons_zero, List.set_cons_succ]
     refine wpAnyH_take (i := 29) (v := undef) (by rfl) (by kernel_rfl) (by kernel_rfl) (by kernel_rfl) (by intro _ _ _ h; exact h) (Or.inr ⟨by kernel_rfl, rfl⟩) (by assumption) ?rest78
     change wpAnyH _ _ _ _ _ _ _ (Act.put _ (some 76) _) _
     try simp only [Act.put, List.setIfInBounds_toArray, List.set_cons_zero, List.set_cons_succ]
     refine wpAnyH_take (i := 30) (v := undef) (by rfl) (by kernel_rfl) (by kernel_rfl) (by kernel_rfl) (by intro _ _ _ h; exact h) (Or.inr ⟨by kernel_rfl, rfl⟩) (by assumption) ?rest79
     change wpAnyH _ _ _ _ _ _ _ (Act.put _ (some 77) _) _
     try simp only [Act.put, List.setIfInBounds_toArray, List.set_cons_zero, List.set_cons_succ]
     refine wpAnyH_take (i := 31) (v := undef) (by rfl) (by kernel_rfl) (by kernel_rfl) (by kernel_rfl) (by intro _ _ _ h; exact h) (Or.inr ⟨by kernel_rfl, rfl⟩) (by assumption) ?rest80
     change wpAnyH _ _ _ _ _ _ _ (Act.put _ (some 78) _) _
     try simp only [Act.put, List.setIfInBounds_toArray, List.set_cons_zero, List.set_cons_succ]
     refine wpAnyH_take (i := 32) (v := undef) (by rfl) (by kernel_rfl) (by kernel_rfl) (by kernel_rfl) (by intro _ _ _ h; exact h) (Or.inr ⟨by kernel_rfl, rfl⟩) (by assumption) ?rest81
     change wpAnyH _ _ _ _ _ _ _ (Act.put _ (some 79) _) _
     try simp only [Act.put, List.setIfInBounds_toArray, List.set_cons_zero, List.set_cons_succ]
     refine wpAnyH_take (i := 33) (v := undef) (by rfl) (by kernel_rfl) (by kernel_rfl) (by kernel_rfl) (by intro _ _ _ h; exact h) (Or.inr ⟨by kernel_rfl, rfl⟩) (by assumption) ?rest82
     change wpAnyH _ _ _ _ _ _ _ (Act.put _ (some 80) _) _
     try simp only [Act.put, List.setIfInBounds_toArray, List.set_cons_zero, List.set_cons_succ]
     refine wpAnyH_take (i := 34) (v := undef) (by rfl) (by kernel_rfl) (by kernel_rfl) (by kernel_rfl) (by intro _ _ _ h; exact h) (Or.inr ⟨by kernel_rfl, rfl⟩) (by assumption) ?rest83
     change wpAnyH _ _ _ _ _ _ _ (Act.put _ (some 81) _) _
     try simp only [Act.put, List.setIfInBounds_toArray, List.set_cons_zero, List.set_cons_succ]
     refine wpAnyH_take (i := 35) (v := undef) (by rfl) (by kernel_rfl) (by kernel_rfl) (by kernel_rfl) (by intro _ _ _ h; exact h) (Or.inr ⟨by kernel_rfl, rfl⟩) (by assumption) ?rest84
     change wpAnyH _ _ _ _ _ _ _ (Act.put _ (some 82) _) _
     try simp only [Act.put, List.setIfInBounds_toArray, List.set_cons_zero, List.set_cons_succ]
     refine wpAnyH_take (i := 36) (v := undef) (by rfl) (by kernel_rfl) (by kernel_rfl) (by kernel_rfl) (by intro _ _ _ h; exact h) (Or.inr ⟨by kernel_rfl, rfl⟩) (by assumption) ?rest85
     change wpAnyH _ _ _ _ _ _ _ (Act.put _ (some 83) _) _
     try simp only [Act.put, List.setIfInBounds_toArray, List.set_cons_zero, List.set_cons_succ]
     refine wpAnyH_take (i := 37) (v := undef) (by rfl) (by kernel_rfl) (by kernel_rfl) (by kernel_rfl) (by intro _ _ _ h; exact h) (Or.inr ⟨by kernel_rfl, rfl⟩) (by assumption) ?rest86
     change wpAnyH _ _ _ _ _ _ _ (Act.put _ (some 84) _) _
     try simp only [Act.put, List.setIfInBounds_toArray, List.set_cons_zero, List.set_cons_succ]
     refine wpAnyH_take (i := 38) (v := undef) (by rfl) (by kernel_rfl) (by kernel_rfl) (by kernel_rfl) (by intro _ _ _ h; exact h) (Or.inr ⟨by kernel_rfl, rfl⟩) (by assumption) ?rest87
     change wpAnyH _ _ _ _ _ _ _ (Act.put _ (some 85) _) _
     try simp only [Act.put, List.setIfInBounds_toArray, List.set_cons_zero, List.set_cons_succ]
     refine tq 39 86 ?_
     refine tq 40 87 ?_
     refine wpAnyH_done (by kernel_rfl) ?_ _
     refine NoPanic.normal ?_
     go_wp2_with fail
     go_meet
     exact ⟨rfl, Lib.hid (HYN.out.trans hHeld)⟩
   case rest =>
   obtain ⟨rfl, HKc⟩ := hcut
   have HK2 := Lib.hid (HKr.out.trans HKc.out)
   go_wp2_with fail
   go_roundw
   case rel => exact ⟨j + 1, by simp, by omega, Lib.hid HK2.out⟩
   case measure => simp only [RowKit.intOf]; omega
  ·have hd : decide ((j : Int) < (t.us.length : Int)) = false := decide_eq_false (by omega)
   have HK := Lib.hid (HK.out.trans HKr.out)
   clear HKr HO
   by_cases hc0 : cut < 0 ∨ (l.length : Int) ≤ cut
   ·rcases hc0 with hc0 | hc0
    ·have e2 : decide (cut < 0) = true := decide_eq_true hc0
     go_wp2_with fail
     go_ret
     exact ⟨rfl, HK.out⟩
    ·have e2 : decide (cut < 0) = false := decide_eq_false (by omega)
     have e3 : decide ((l.length : Int) ≤ cut) = true := decide_eq_true hc0
     go_wp2_with fail
     go_ret
     exact ⟨rfl, HK.out⟩
   ·obtain ⟨c, rfl⟩ : ∃ c : Nat, cut = c := Int.eq_ofNat_of_zero_le (by omega)
    have hcl : c < l.length := by omega
    have e3 : decide ((l.length : Int) ≤ (c : Int)) = false := decide_eq_false (by omega)
    have e3' : decide (l.length ≤ c) = false := decide_eq_false (by omega)
    have hrun : ∀ w', (Instr.slice 22 (.slice p l.length cap) none (some (.int .i64 (c : Int))) none).run Tryz.prog w' = .ok (cutv p 0 c cap) w' := fun w' => run_cut_h w' Tryz.underlying22 s5u p l.length cap c (by omega)
    have HRC := Lib.hid (show Row W (cutv p 0 c cap) ((l.take c).map u8v) from by
     have := HR.out.cut (lo := 0) (hi := c) (Nat.zero_le _) (by simp; omega)
     rw [List.drop_zero, Nat.sub_zero, ← List.map_take] at this
     exact this)
    have CR := Lib.hid (read_any wz (cutv p 0 c cap) (l.take c) (HRC.out.keeps HK.out) (by rw [List.length_take]; omega))
    rw [HCT.out c hcl] at CR
    clear hc0 hcl
    go_wp2_with fail
    refine CR.out.mono ?_
    rintro e w5 ⟨hk, ⟨t', g', x1, x2, ho, -⟩ | ⟨-, rfl⟩⟩
    ·cases ho
    have HK5 := Lib.hid (HK.out.trans hk)
    go_wp2_with fail
    go_ret
    exact ⟨rfl, HK5.out⟩
end Usr
end Go.Proofs.YtpndpooddehbbaaGreat
