/- The law RecordWrites, walked. -/
import Derived.Test.YtekkjhjaacjhnaaRecAwake
namespace Go.Proofs.Ytekkjhjaacjhnaa
open Go.RowKit
namespace Rcd
open Oct Frm

theorem recC_arr (x : RecX) : (recC x).toArray = recA x.1 x.2 := rfl

set_option maxRecDepth 100000 in
set_option maxHeartbeats 4000000 in
theorem recordWrites_walk (W : World) (a0 : RecX) (w0 : RecOk W a0) : Calls Try.prog 7 #[.agg (recC a0).toArray] W fun e w' => e = .returned (.bool true) ∧ Keeps W w' := by
  rw [recC_arr]
  obtain ⟨r, v⟩ := a0
  have hr : Row W v (r.data.map u8v) := w0.row
  clear w0
  simp only
  obtain ⟨pv, cv, rfl, -, -⟩ := hr.form
  have hnl : (List.map u8v r.data).length = r.data.length := by simp
  rw [hnl] at hr ⊢
  clear hnl
  have HR := Lib.hid hr
  clear hr
  have HLI := Lib.hid (fun w h => light_any r (.slice pv r.data.length cv) w h)
  have HP1 := Lib.hid (fun w h => payload_any r (.slice pv r.data.length cv) w h)
  have HP2 := Lib.hid (fun w h => rPayload_any r (.slice pv r.data.length cv) w h)
  have HF1 := Lib.hid (fun w h => frame_any r (.slice pv r.data.length cv) w h)
  have HF2 := Lib.hid (fun w h => rFrame_any r (.slice pv r.data.length cv) w h)
  have HC1 := Lib.hid (fun w h => check_any r (.slice pv r.data.length cv) w h)
  have HC2 := Lib.hid (fun w h => rCheck_any r (.slice pv r.data.length cv) w h)
  have bt := bstr_toList
  unfold recA
  go_enter Try.func7, Try.ntmps7
  go_upto_region 1 with fail
  generalize hW : World.alloc W _ = w1
  have HK := Lib.hid (show Keeps W w1 from by rw [← hW]; exact (Keeps.refl _).alloc _)
  have HA := Lib.hid (show Blk w1 W.heap.size 30 (recA r (.slice pv r.data.length cv)) from by rw [← hW]; exact Blk.new _ _ _ rfl)
  clear hW
  generalize W.heap.size = Q at *
  go_wp2_with fail
  refine (awake14_any w1).mono ?_
  rintro e w2 ⟨rfl, hk2⟩
  have HK := Lib.hid (HK.out.trans hk2)
  have HA := Lib.hid (HA.out.keeps hk2)
  clear hk2
  obtain ⟨a0, a1, a2, a3, a4, a5, a6, a7, a8, a9, a10, a11⟩ := rec12 HA.out
  go_wp2_with fail
  refine (HLI.out _ (HR.out.keeps HK.out)).mono ?_
  rintro e w3 ⟨rfl, hk3⟩
  have HK := Lib.hid (HK.out.trans hk3)
  have HA := Lib.hid (HA.out.keeps hk3)
  clear hk3 a0 a1 a2 a3 a4 a5 a6 a7 a8 a9 a10 a11
  generalize decide (r.data.length ≤ 1000) = li at *
  cases li with
  | false =>
    go_wp2_with fail
    go_ret
    exact ⟨rfl, HK.out⟩
  | true =>
    obtain ⟨a0, a1, a2, a3, a4, a5, a6, a7, a8, a9, a10, a11⟩ := rec12 HA.out
    go_wp2_with fail
    refine (HP1.out _ (HR.out.keeps HK.out)).mono ?_
    rintro e w4 ⟨v4, rfl, ho4, hk4⟩
    obtain ⟨p4, n4, c4, rfl⟩ := ho4.sl
    have HO4 := Lib.hid ho4.row
    have HK := Lib.hid (HK.out.trans hk4)
    have HA := Lib.hid (HA.out.keeps hk4)
    clear ho4 hk4 a0 a1 a2 a3 a4 a5 a6 a7 a8 a9 a10 a11
    obtain ⟨a0, a1, a2, a3, a4, a5, a6, a7, a8, a9, a10, a11⟩ := rec12 HA.out
    go_wp2_with fail
    refine (HP2.out _ (HR.out.keeps HK.out)).mono ?_
    rintro e w5 ⟨p5, c5, rfl, ho5, hk5⟩
    have HO4 := Lib.hid (HO4.out.keeps hk5)
    have HO5 := Lib.hid ho5
    have HK := Lib.hid (HK.out.trans hk5)
    have HA := Lib.hid (HA.out.keeps hk5)
    clear ho5 hk5 a0 a1 a2 a3 a4 a5 a6 a7 a8 a9 a10 a11
    obtain ⟨a0, a1, a2, a3, a4, a5, a6, a7, a8, a9, a10, a11⟩ := rec12 HA.out
    go_wp2_with fail
    refine (HF1.out _ (HR.out.keeps HK.out)).mono ?_
    rintro e w6 ⟨v6, rfl, ho6, hk6⟩
    obtain ⟨p6, n6, c6, rfl⟩ := ho6.sl
    have HO4 := Lib.hid (HO4.out.keeps hk6)
    have HO5 := Lib.hid (HO5.out.keeps hk6)
    have HO6 := Lib.hid ho6.row
    have HK := Lib.hid (HK.out.trans hk6)
    have HA := Lib.hid (HA.out.keeps hk6)
    clear ho6 hk6 a0 a1 a2 a3 a4 a5 a6 a7 a8 a9 a10 a11
    obtain ⟨a0, a1, a2, a3, a4, a5, a6, a7, a8, a9, a10, a11⟩ := rec12 HA.out
    go_wp2_with fail
    refine (HF2.out _ (HR.out.keeps HK.out)).mono ?_
    rintro e w7 ⟨p7, c7, rfl, ho7, hk7⟩
    have HO4 := Lib.hid (HO4.out.keeps hk7)
    have HO5 := Lib.hid (HO5.out.keeps hk7)
    have HO6 := Lib.hid (HO6.out.keeps hk7)
    have HO7 := Lib.hid ho7
    have HK := Lib.hid (HK.out.trans hk7)
    have HA := Lib.hid (HA.out.keeps hk7)
    clear ho7 hk7 a0 a1 a2 a3 a4 a5 a6 a7 a8 a9 a10 a11
    obtain ⟨a0, a1, a2, a3, a4, a5, a6, a7, a8, a9, a10, a11⟩ := rec12 HA.out
    have HX := Lib.hid (fun w h => HC1.out w h)
    generalize chk r = ch at *
    generalize payO r = pl at *
    generalize frmL r = fl at *
    go_upto_region 9 with fail
    have HT := Lib.hid (Keeps.refl w7).drew
    refine wp_region_noPanic ?_
    refine wp_region_held_drew (S := fun w' => Keeps (w7) w') (by kernel_rfl) ((Keeps.refl _).drew) (fun _ => ?_)
    have hHeld : Keeps (w7) (w7).drew := (Keeps.refl _).drew
    refine wpAnyH_take (i := 0) (v := ?vv1) (by rfl) (by kernel_rfl) (by kernel_rfl) (by kernel_rfl) (by intro _ _ _ h; exact h) (Or.inl ⟨by kernel_rfl, ?hy1⟩) (by assumption) ?rest1
    case hy1 =>
      intro w' hSw
      have hSw : Keeps _ w' := hSw
      clear hSw
      go_simp
      try with_reducible rfl
    change wpAnyH _ _ _ _ _ _ _ (Act.put _ (some 36) _) _
    try simp only [Act.put, List.setIfInBounds_toArray, List.set_cons_zero, List.set_cons_succ]
    refine wpAnyH_take (i := 1) (v := ?vv2) (by rfl) (by kernel_rfl) (by kernel_rfl) (by kernel_rfl) (by intro _ _ _ h; exact h) (Or.inl ⟨by kernel_rfl, ?hy2⟩) (by assumption) ?rest2
    case hy2 =>
      intro w' hSw
      have hSw : Keeps _ w' := hSw
      have hc := rstr_at (HO4.out.keeps hSw)
      clear hSw
      go_simp
      try with_reducible rfl
    change wpAnyH _ _ _ _ _ _ _ (Act.put _ (some 37) _) _
    try simp only [Act.put, List.setIfInBounds_toArray, List.set_cons_zero, List.set_cons_succ]
    refine wpAnyH_take (i := 2) (v := ?vv3) (by rfl) (by kernel_rfl) (by kernel_rfl) (by kernel_rfl) (by intro _ _ _ h; exact h) (Or.inl ⟨by kernel_rfl, ?hy3⟩) (by assumption) ?rest3
    case hy3 =>
      intro w' hSw
      have hSw : Keeps _ w' := hSw
      clear hSw
      go_simp
      try with_reducible rfl
    change wpAnyH _ _ _ _ _ _ _ (Act.put _ (some 38) _) _
    try simp only [Act.put, List.setIfInBounds_toArray, List.set_cons_zero, List.set_cons_succ]
    refine wpAnyH_take (i := 3) (v := ?vv4) (by rfl) (by kernel_rfl) (by kernel_rfl) (by kernel_rfl) (by intro _ _ _ h; exact h) (Or.inl ⟨by kernel_rfl, ?hy4⟩) (by assumption) ?rest4
    case hy4 =>
      intro w' hSw
      have hSw : Keeps _ w' := hSw
      have hc := rstr_at (HO5.out.keeps hSw)
      clear hSw
      go_simp
      try with_reducible rfl
    change wpAnyH _ _ _ _ _ _ _ (Act.put _ (some 39) _) _
    try simp only [Act.put, List.setIfInBounds_toArray, List.set_cons_zero, List.set_cons_succ]
    refine wpAnyH_take (i := 4) (v := ?vv5) (by rfl) (by kernel_rfl) (by kernel_rfl) (by kernel_rfl) (by intro _ _ _ h; exact h) (Or.inl ⟨by kernel_rfl, ?hy5⟩) (by assumption) ?rest5
    case hy5 =>
      intro w' hSw
      have hSw : Keeps _ w' := hSw
      clear hSw
      go_simp
      try with_reducible rfl
    change wpAnyH _ _ _ _ _ _ _ (Act.put _ (some 40) _) _
    try simp only [Act.put, List.setIfInBounds_toArray, List.set_cons_zero, List.set_cons_succ]
    refine wpAnyH_take (i := 5) (v := ?vv6) (by rfl) (by kernel_rfl) (by kernel_rfl) (by kernel_rfl) (by intro _ _ _ h; exact h) (Or.inl ⟨by kernel_rfl, ?hy6⟩) (by assumption) ?rest6
    case hy6 =>
      intro w' hSw
      have hSw : Keeps _ w' := hSw
      clear hSw
      go_simp
      try with_reducible rfl
    change wpAnyH _ _ _ _ _ _ _ (Act.put _ (some 41) _) _
    try simp only [Act.put, List.setIfInBounds_toArray, List.set_cons_zero, List.set_cons_succ]
    refine wpAnyH_take (i := 6) (v := ?vv7) (by rfl) (by kernel_rfl) (by kernel_rfl) (by kernel_rfl) (by intro _ _ _ h; exact h) (Or.inl ⟨by kernel_rfl, ?hy7⟩) (by assumption) ?rest7
    case hy7 =>
      intro w' hSw
      have hSw : Keeps _ w' := hSw
      clear hSw
      go_simp
      try with_reducible rfl
    change wpAnyH _ _ _ _ _ _ _ (Act.put _ (some 42) _) _
    try simp only [Act.put, List.setIfInBounds_toArray, List.set_cons_zero, List.set_cons_succ]
    refine wpAnyH_take (i := 7) (v := ?vv8) (by rfl) (by kernel_rfl) (by kernel_rfl) (by kernel_rfl) (by intro _ _ _ h; exact h) (Or.inl ⟨by kernel_rfl, ?hy8⟩) (by assumption) ?rest8
    case hy8 =>
      intro w' hSw
      have hSw : Keeps _ w' := hSw
      clear hSw
      go_simp
      try with_reducible rfl
    change wpAnyH _ _ _ _ _ _ _ (Act.put _ (some 43) _) _
    try simp only [Act.put, List.setIfInBounds_toArray, List.set_cons_zero, List.set_cons_succ]
    refine wpAnyH_take (i := 8) (v := ?vv9) (by rfl) (by kernel_rfl) (by kernel_rfl) (by kernel_rfl) (by intro _ _ _ h; exact h) (Or.inl ⟨by kernel_rfl, ?hy9⟩) (by assumption) ?rest9
    case hy9 =>
      intro w' hSw
      have hSw : Keeps _ w' := hSw
      clear hSw
      go_simp
      try with_reducible rfl
    change wpAnyH _ _ _ _ _ _ _ (Act.put _ (some 44) _) _
    try simp only [Act.put, List.setIfInBounds_toArray, List.set_cons_zero, List.set_cons_succ]
    refine wpAnyH_take (i := 9) (v := ?vv10) (by rfl) (by kernel_rfl) (by kernel_rfl) (by kernel_rfl) (by intro _ _ _ h; exact h) (Or.inl ⟨by kernel_rfl, ?hy10⟩) (by assumption) ?rest10
    case hy10 =>
      intro w' hSw
      have hSw : Keeps _ w' := hSw
      clear hSw
      go_simp
      try with_reducible rfl
    change wpAnyH _ _ _ _ _ _ _ (Act.put _ (some 45) _) _
    try simp only [Act.put, List.setIfInBounds_toArray, List.set_cons_zero, List.set_cons_succ]
    refine wpAnyH_take (i := 10) (v := ?vv11) (by rfl) (by kernel_rfl) (by kernel_rfl) (by kernel_rfl) (by intro _ _ _ h; exact h) (Or.inl ⟨by kernel_rfl, ?hy11⟩) (by assumption) ?rest11
    case hy11 =>
      intro w' hSw
      have hSw : Keeps _ w' := hSw
      clear hSw
      go_simp
      try with_reducible rfl
    change wpAnyH _ _ _ _ _ _ _ (Act.put _ (some 46) _) _
    try simp only [Act.put, List.setIfInBounds_toArray, List.set_cons_zero, List.set_cons_succ]
    refine wpAnyH_take (i := 11) (v := ?vv12) (by rfl) (by kernel_rfl) (by kernel_rfl) (by kernel_rfl) (by intro _ _ _ h; exact h) (Or.inl ⟨by kernel_rfl, ?hy12⟩) (by assumption) ?rest12
    case hy12 =>
      intro w' hSw
      have hSw : Keeps _ w' := hSw
      clear hSw
      go_simp
      try with_reducible rfl
    change wpAnyH _ _ _ _ _ _ _ (Act.put _ (some 47) _) _
    try simp only [Act.put, List.setIfInBounds_toArray, List.set_cons_zero, List.set_cons_succ]
    refine wpAnyH_take (i := 12) (v := ?vv13) (by rfl) (by kernel_rfl) (by kernel_rfl) (by kernel_rfl) (by intro _ _ _ h; exact h) (Or.inl ⟨by kernel_rfl, ?hy13⟩) (by assumption) ?rest13
    case hy13 =>
      intro w' hSw
      have hSw : Keeps _ w' := hSw
      have hc := rstr_at (HO6.out.keeps hSw)
      clear hSw
      go_simp
      try with_reducible rfl
    change wpAnyH _ _ _ _ _ _ _ (Act.put _ (some 48) _) _
    try simp only [Act.put, List.setIfInBounds_toArray, List.set_cons_zero, List.set_cons_succ]
    refine wpAnyH_take (i := 13) (v := ?vv14) (by rfl) (by kernel_rfl) (by kernel_rfl) (by kernel_rfl) (by intro _ _ _ h; exact h) (Or.inl ⟨by kernel_rfl, ?hy14⟩) (by assumption) ?rest14
    case hy14 =>
      intro w' hSw
      have hSw : Keeps _ w' := hSw
      clear hSw
      go_simp
      try with_reducible rfl
    change wpAnyH _ _ _ _ _ _ _ (Act.put _ (some 49) _) _
    try simp only [Act.put, List.setIfInBounds_toArray, List.set_cons_zero, List.set_cons_succ]
    refine wpAnyH_take (i := 14) (v := ?vv15) (by rfl) (by kernel_rfl) (by kernel_rfl) (by kernel_rfl) (by intro _ _ _ h; exact h) (Or.inl ⟨by kernel_rfl, ?hy15⟩) (by assumption) ?rest15
    case hy15 =>
      intro w' hSw
      have hSw : Keeps _ w' := hSw
      have hc := rstr_at (HO7.out.keeps hSw)
      clear hSw
      go_simp
      try with_reducible rfl
    change wpAnyH _ _ _ _ _ _ _ (Act.put _ (some 50) _) _
    try simp only [Act.put, List.setIfInBounds_toArray, List.set_cons_zero, List.set_cons_succ]
    refine wpAnyH_take (i := 15) (v := ?vv16) (by rfl) (by kernel_rfl) (by kernel_rfl) (by kernel_rfl) (by intro _ _ _ h; exact h) (Or.inl ⟨by kernel_rfl, ?hy16⟩) (by assumption) ?rest16
    case hy16 =>
      intro w' hSw
      have hSw : Keeps _ w' := hSw
      clear hSw
      go_simp
      try with_reducible rfl
    change wpAnyH _ _ _ _ _ _ _ (Act.put _ (some 51) _) _
    try simp only [Act.put, List.setIfInBounds_toArray, List.set_cons_zero, List.set_cons_succ]
    refine wpAnyH_take (i := 16) (v := ?vv17) (by rfl) (by kernel_rfl) (by kernel_rfl) (by kernel_rfl) (by intro _ _ _ h; exact h) (Or.inl ⟨by kernel_rfl, ?hy17⟩) (by assumption) ?rest17
    case hy17 =>
      intro w' hSw
      have hSw : Keeps _ w' := hSw
      clear hSw
      go_simp
      try with_reducible rfl
    change wpAnyH _ _ _ _ _ _ _ (Act.put _ (some 52) _) _
    try simp only [Act.put, List.setIfInBounds_toArray, List.set_cons_zero, List.set_cons_succ]
    refine wpAnyH_take (i := 17) (v := ?vv18) (by rfl) (by kernel_rfl) (by kernel_rfl) (by kernel_rfl) (by intro _ _ _ h; exact h) (Or.inl ⟨by kernel_rfl, ?hy18⟩) (by assumption) ?rest18
    case hy18 =>
      intro w' hSw
      have hSw : Keeps _ w' := hSw
      clear hSw
      go_simp
      try with_reducible rfl
    change wpAnyH _ _ _ _ _ _ _ (Act.put _ (some 53) _) _
    try simp only [Act.put, List.setIfInBounds_toArray, List.set_cons_zero, List.set_cons_succ]
    refine wpAnyH_take (i := 18) (v := ?vv19) (by rfl) (by kernel_rfl) (by kernel_rfl) (by kernel_rfl) (by intro _ _ _ h; exact h) (Or.inl ⟨by kernel_rfl, ?hy19⟩) (by assumption) ?rest19
    case hy19 =>
      intro w' hSw
      have hSw : Keeps _ w' := hSw
      clear hSw
      go_simp
      try with_reducible rfl
    change wpAnyH _ _ _ _ _ _ _ (Act.put _ (some 54) _) _
    try simp only [Act.put, List.setIfInBounds_toArray, List.set_cons_zero, List.set_cons_succ]
    refine wpAnyH_take (i := 19) (v := ?vv20) (by rfl) (by kernel_rfl) (by kernel_rfl) (by kernel_rfl) (by intro _ _ _ h; exact h) (Or.inl ⟨by kernel_rfl, ?hy20⟩) (by assumption) ?rest20
    case hy20 =>
      intro w' hSw
      have hSw : Keeps _ w' := hSw
      clear hSw
      go_simp
      try with_reducible rfl
    change wpAnyH _ _ _ _ _ _ _ (Act.put _ (some 55) _) _
    try simp only [Act.put, List.setIfInBounds_toArray, List.set_cons_zero, List.set_cons_succ]
    refine wpAnyH_take (i := 20) (v := ?vv21) (by rfl) (by kernel_rfl) (by kernel_rfl) (by kernel_rfl) (by intro _ _ _ h; exact h) (Or.inl ⟨by kernel_rfl, ?hy21⟩) (by assumption) ?rest21
    case hy21 =>
      intro w' hSw
      have hSw : Keeps _ w' := hSw
      clear hSw
      go_simp
      try with_reducible rfl
    change wpAnyH _ _ _ _ _ _ _ (Act.put _ (some 56) _) _
    try simp only [Act.put, List.setIfInBounds_toArray, List.set_cons_zero, List.set_cons_succ]
    refine wpAnyH_take (i := 21) (v := ?vv22) (by rfl) (by kernel_rfl) (by kernel_rfl) (by kernel_rfl) (by intro _ _ _ h; exact h) (Or.inl ⟨by kernel_rfl, ?hy22⟩) (by assumption) ?rest22
    case hy22 =>
      intro w' hSw
      have hSw : Keeps _ w' := hSw
      clear hSw
      go_simp
      try with_reducible rfl
    change wpAnyH _ _ _ _ _ _ _ (Act.put _ (some 57) _) _
    try simp only [Act.put, List.setIfInBounds_toArray, List.set_cons_zero, List.set_cons_succ]
    refine wpAnyH_take (i := 22) (v := ?vv23) (by rfl) (by kernel_rfl) (by kernel_rfl) (by kernel_rfl) (by intro _ _ _ h; exact h) (Or.inl ⟨by kernel_rfl, ?hy23⟩) (by assumption) ?rest23
    case hy23 =>
      intro w' hSw
      have hSw : Keeps _ w' := hSw
      clear hSw
      go_simp
      try with_reducible rfl
    change wpAnyH _ _ _ _ _ _ _ (Act.put _ (some 58) _) _
    try simp only [Act.put, List.setIfInBounds_toArray, List.set_cons_zero, List.set_cons_succ]
    refine wpAnyH_take (i := 23) (v := ?vv24) (by rfl) (by kernel_rfl) (by kernel_rfl) (by kernel_rfl) (by intro _ _ _ h; exact h) (Or.inl ⟨by kernel_rfl, ?hy24⟩) (by assumption) ?rest24
    case hy24 =>
      intro w' hSw
      have hSw : Keeps _ w' := hSw
      have h0 := keep1 hSw a0
      have h1 := keep1 hSw a1
      have h2 := keep1 hSw a2
      have h3 := keep1 hSw a3
      have h4 := keep1 hSw a4
      have h5 := keep1 hSw a5
      have h6 := keep1 hSw a6
      have h7 := keep1 hSw a7
      have h8 := keep1 hSw a8
      have h9 := keep1 hSw a9
      have h10 := keep1 hSw a10
      have h11 := keep1 hSw a11
      clear hSw
      go_simp
      try with_reducible rfl
    change wpAnyH _ _ _ _ _ _ _ (Act.put _ (some 59) _) _
    try simp only [Act.put, List.setIfInBounds_toArray, List.set_cons_zero, List.set_cons_succ]
    refine wpAnyH_take (i := 25) (v := ?vv25) (by rfl) (by kernel_rfl) (by kernel_rfl) (by kernel_rfl) (by intro _ _ _ h; exact h) (Or.inl ⟨by kernel_rfl, ?hy25⟩) (by assumption) ?rest25
    case hy25 =>
      intro w' hSw
      have hSw : Keeps _ w' := hSw
      have h0 := keep1 hSw a0
      have h1 := keep1 hSw a1
      have h2 := keep1 hSw a2
      have h3 := keep1 hSw a3
      have h4 := keep1 hSw a4
      have h5 := keep1 hSw a5
      have h6 := keep1 hSw a6
      have h7 := keep1 hSw a7
      have h8 := keep1 hSw a8
      have h9 := keep1 hSw a9
      have h10 := keep1 hSw a10
      have h11 := keep1 hSw a11
      clear hSw
      go_simp
      try with_reducible rfl
    change wpAnyH _ _ _ _ _ _ _ (Act.put _ (some 61) _) _
    try simp only [Act.put, List.setIfInBounds_toArray, List.set_cons_zero, List.set_cons_succ]
    refine wpAnyH_ready (rs := [24]) (by kernel_rfl) (by simp) ?_
    refine AllReadyH.cons (o := _) rfl (fun K hK => ?_) AllReadyH.nil
    go_simp
    refine (HC1.out _ (HR.out.keeps (HK.out.trans HT.out))).mono ?_
    rintro e w8 ⟨rfl, hk⟩
    have hb : Keeps _ w8 := hHeld.trans hk
    have HT := Lib.hid (HT.out.trans hk)
    go_wp2_with fail
    refine hK.out _ _ hb (fun _ => ?_)
    clear hK K
    try simp only [Act.put, List.setIfInBounds_toArray, List.set_cons_zero, List.set_cons_succ]
    refine wpAnyH_more (S' := fun w' => Keeps w8 w') (fun _ h => hb.trans h) ?_
    clear hHeld hb hk
    have hHeld : Keeps w8 w8 := Keeps.refl _
    refine wpAnyH_ready (rs := [26]) (by kernel_rfl) (by simp) ?_
    refine AllReadyH.cons (o := _) rfl (fun K hK => ?_) AllReadyH.nil
    go_simp
    refine (HC2.out _ (HR.out.keeps (HK.out.trans HT.out))).mono ?_
    rintro e w9 ⟨rfl, hk⟩
    have hb : Keeps _ w9 := hHeld.trans hk
    have HT := Lib.hid (HT.out.trans hk)
    go_wp2_with fail
    refine hK.out _ _ hb (fun _ => ?_)
    clear hK K
    try simp only [Act.put, List.setIfInBounds_toArray, List.set_cons_zero, List.set_cons_succ]
    refine wpAnyH_more (S' := fun w' => Keeps w9 w') (fun _ h => hb.trans h) ?_
    clear hHeld hb hk
    have hHeld : Keeps w9 w9 := Keeps.refl _
    refine wpAnyH_take (i := 27) (v := ?vv26) (by rfl) (by kernel_rfl) (by kernel_rfl) (by kernel_rfl) (by intro _ _ _ h; exact h) (Or.inl ⟨by kernel_rfl, ?hy26⟩) (by assumption) ?rest26
    case hy26 =>
      intro w' hSw
      have hSw : Keeps _ w' := hSw
      clear hSw
      go_simp
      try with_reducible rfl
    change wpAnyH _ _ _ _ _ _ _ (Act.put _ (some 63) _) _
    try simp only [Act.put, List.setIfInBounds_toArray, List.set_cons_zero, List.set_cons_succ]
    refine wpAnyH_take (i := 28) (v := ?vv27) (by rfl) (by kernel_rfl) (by kernel_rfl) (by kernel_rfl) (by intro _ _ _ h; exact h) (Or.inl ⟨by kernel_rfl, ?hy27⟩) (by assumption) ?rest27
    case hy27 =>
      intro w' hSw
      have hSw : Keeps _ w' := hSw
      clear hSw
      go_simp
      try with_reducible rfl
    change wpAnyH _ _ _ _ _ _ _ (Act.put _ (some 64) _) _
    try simp only [Act.put, List.setIfInBounds_toArray, List.set_cons_zero, List.set_cons_succ]
    refine wpAnyH_take (i := 29) (v := ?vv28) (by rfl) (by kernel_rfl) (by kernel_rfl) (by kernel_rfl) (by intro _ _ _ h; exact h) (Or.inl ⟨by kernel_rfl, ?hy28⟩) (by assumption) ?rest28
    case hy28 =>
      intro w' hSw
      have hSw : Keeps _ w' := hSw
      clear hSw
      go_simp
      try with_reducible rfl
    change wpAnyH _ _ _ _ _ _ _ (Act.put _ (some 2) _) _
    try simp only [Act.put, List.setIfInBounds_toArray, List.set_cons_zero, List.set_cons_succ]
    refine wpAnyH_done (by kernel_rfl) ?_ _
    refine NoPanic.normal ?_
    go_wp2_with fail
    go_ret
    exact ⟨rfl, HK.out.trans HT.out⟩
end Rcd
end Go.Proofs.Ytekkjhjaacjhnaa
