/- The law EnvelSame, walked. Printed by gen_enwalks.py. -/
import Derived.Test.YtkbibhlfehamgaaK10
import Derived.Test.YtkbibhlfehamgaaEnAwake
import Derived.Test.YtkbibhlfehamgaaEnOpen
namespace Go.Proofs.Ytkbibhlfehamgaa
open Go.RowKit
namespace Env
open Adr (Str)
set_option maxRecDepth 100000 in
set_option maxHeartbeats 4000000 in
theorem envelSame_walk (W : World) (x y : JobX) (hx : JobOk W x) (hy : JobOk W y) : Calls Try.prog 5 #[.agg (jobC7 x).toArray, .agg (jobC7 y).toArray] W fun e w' => e = .returned (.bool true) ∧ Keeps W w' := by
 obtain ⟨⟨id1, arr1, fl1, fd1, T1, S1, B1⟩, vt1, vs1, vb1⟩ := x
 obtain ⟨⟨id2, arr2, fl2, fd2, T2, S2, B2⟩, vt2, vs2, vb2⟩ := y
 have hA := hx.at_
 have hB := hy.at_
 simp only at hA hB
 obtain ⟨pt1, ct1, rfl, -, -⟩ := hA.tos.form
 obtain ⟨ps1, cs1, rfl, -, -⟩ := hA.st.form
 obtain ⟨pb1, cb1, rfl, -, -⟩ := hA.body.formB
 obtain ⟨pt2, ct2, rfl, -, -⟩ := hB.tos.form
 obtain ⟨ps2, cs2, rfl, -, -⟩ := hB.st.form
 obtain ⟨pb2, cb2, rfl, -, -⟩ := hB.body.formB
 have HA := Lib.hid hA
 have HB := Lib.hid hB
 clear hA hB hx hy
 show Calls Try.prog 5 #[.agg (jobA ⟨id1, arr1, fl1, fd1, T1, S1, B1⟩ (.slice pt1 T1.length ct1) (.slice ps1 S1.length cs1) (.slice pb1 B1.length cb1)), .agg (jobA ⟨id2, arr2, fl2, fd2, T2, S2, B2⟩ (.slice pt2 T2.length ct2) (.slice ps2 S2.length cs2) (.slice pb2 B2.length cb2))] W _
 go_enter Try.func5, Try.ntmps5
 go_upto_region 1 with fail
 generalize hW : World.alloc (World.alloc W _) _ = w2
 have HK := Lib.hid (show Keeps W w2 from by rw [← hW]; exact ((Keeps.refl _).alloc _).alloc _)
 have HAB := Lib.hid (show Blk w2 W.heap.size 29 (jobA ⟨id1, arr1, fl1, fd1, T1, S1, B1⟩ (.slice pt1 T1.length ct1) (.slice ps1 S1.length cs1) (.slice pb1 B1.length cb1)) from by rw [← hW]; exact (Blk.new _ _ _ rfl).alloc _)
 have HBB := Lib.hid (show Blk w2 (W.heap.size + 1) 29 (jobA ⟨id2, arr2, fl2, fd2, T2, S2, B2⟩ (.slice pt2 T2.length ct2) (.slice ps2 S2.length cs2) (.slice pb2 B2.length cb2)) from by rw [← hW]; exact Blk.new _ _ _ (by show _ = (W.heap.push _).size; simp))
 clear hW
 generalize W.heap.size = Q at *
 go_wp2_with fail
 refine (awake15_any _).mono ?_
 rintro e w3 ⟨rfl, hk⟩
 have HK := Lib.hid (HK.out.trans hk)
 have HAB := Lib.hid (HAB.out.keeps hk)
 have HBB := Lib.hid (HBB.out.keeps hk)
 clear hk
 go_wp2_with (refine wpList_ld rfl jobM HAB.out _ rfl rfl ?_)
 refine (light_any _ _ _ _ _ (HA.out.keeps HK.out)).mono ?_
 rintro e w4 ⟨l1, rfl, hl1, hk⟩
 have HK := Lib.hid (HK.out.trans hk)
 have HAB := Lib.hid (HAB.out.keeps hk)
 have HBB := Lib.hid (HBB.out.keeps hk)
 clear hk
 cases l1 with
 | false =>
  go_wp2_with fail
  go_ret
  exact ⟨rfl, HK.out⟩
 | true =>
 have HL1 := Lib.hid (hl1 rfl)
 clear hl1
 have b0 : w4.cell? ⟨Q + 1, 0, none⟩ = some (.int .i64 id2) := by rw [HBB.out.cell]; rfl
 have b1 : w4.cell? ⟨Q + 1, 1, none⟩ = some (.int .i64 arr2) := by rw [HBB.out.cell]; rfl
 have b2 : w4.cell? ⟨Q + 1, 2, none⟩ = some (.string (bstr fl2)) := by rw [HBB.out.cell]; rfl
 have b3 : w4.cell? ⟨Q + 1, 3, none⟩ = some (.string (bstr fd2)) := by rw [HBB.out.cell]; rfl
 have b4 : w4.cell? ⟨Q + 1, 4, none⟩ = some (.slice pt2 T2.length ct2) := by rw [HBB.out.cell]; rfl
 have b5 : w4.cell? ⟨Q + 1, 5, none⟩ = some (.slice ps2 S2.length cs2) := by rw [HBB.out.cell]; rfl
 have b6 : w4.cell? ⟨Q + 1, 6, none⟩ = some (.slice pb2 B2.length cb2) := by rw [HBB.out.cell]; rfl
 go_wp2_with fail
 refine (light_any _ ⟨id2, arr2, fl2, fd2, T2, S2, B2⟩ _ _ _ (HB.out.keeps HK.out)).mono ?_
 rintro e w5 ⟨l2, rfl, hl2, hk⟩
 have HK := Lib.hid (HK.out.trans hk)
 have HAB := Lib.hid (HAB.out.keeps hk)
 have HBB := Lib.hid (HBB.out.keeps hk)
 clear hk b0 b1 b2 b3 b4 b5 b6
 cases l2 with
 | false =>
  go_wp2_with fail
  go_ret
  exact ⟨rfl, HK.out⟩
 | true =>
 clear hl2
 have HTL := Lib.hid (show T1.length ≤ 1000000 from Nat.le_trans HL1.out.tos (by decide))
 have HSL := Lib.hid (show S1.length ≤ 1000000 from Nat.le_trans HL1.out.st (by decide))
 obtain ⟨rr, hrr⟩ : ∃ r, decide ((⟨id1, arr1, fl1, fd1, T1, S1, B1⟩ : JobP) = ⟨id2, arr2, fl2, fd2, T2, S2, B2⟩) = r := ⟨_, rfl⟩
 have C1 := Lib.hid (fun (w : World) (k : Keeps W w) => same_any w ⟨id1, arr1, fl1, fd1, T1, S1, B1⟩ ⟨id2, arr2, fl2, fd2, T2, S2, B2⟩ _ _ _ _ _ _ (HA.out.keeps k) (HB.out.keeps k) HTL.out HSL.out)
 have C2 := Lib.hid (fun (w : World) (k : Keeps W w) => rsame_any w ⟨id1, arr1, fl1, fd1, T1, S1, B1⟩ ⟨id2, arr2, fl2, fd2, T2, S2, B2⟩ _ _ _ _ _ _ (HA.out.keeps k) (HB.out.keeps k) HTL.out HSL.out)
 have C3 := Lib.hid (fun (w : World) (k : Keeps W w) => same_any w ⟨id1, arr1, fl1, fd1, T1, S1, B1⟩ ⟨id1, arr1, fl1, fd1, T1, S1, B1⟩ _ _ _ _ _ _ (HA.out.keeps k) (HA.out.keeps k) HTL.out HSL.out)
 rw [hrr] at C1 C2
 rw [decide_eq_true rfl] at C3
 clear hrr
 have erf : (rr == rr) = true := by simp
 go_upto_region 5 with fail
 obtain ⟨w5, rfl⟩ : ∃ z : World, z = w5 := ⟨_, rfl⟩
 have a0 : w5.cell? ⟨Q, 0, none⟩ = some (.int .i64 id1) := by rw [HAB.out.cell]; rfl
 have a1 : w5.cell? ⟨Q, 1, none⟩ = some (.int .i64 arr1) := by rw [HAB.out.cell]; rfl
 have a2 : w5.cell? ⟨Q, 2, none⟩ = some (.string (bstr fl1)) := by rw [HAB.out.cell]; rfl
 have a3 : w5.cell? ⟨Q, 3, none⟩ = some (.string (bstr fd1)) := by rw [HAB.out.cell]; rfl
 have a4 : w5.cell? ⟨Q, 4, none⟩ = some (.slice pt1 T1.length ct1) := by rw [HAB.out.cell]; rfl
 have a5 : w5.cell? ⟨Q, 5, none⟩ = some (.slice ps1 S1.length cs1) := by rw [HAB.out.cell]; rfl
 have a6 : w5.cell? ⟨Q, 6, none⟩ = some (.slice pb1 B1.length cb1) := by rw [HAB.out.cell]; rfl
 have b0 : w5.cell? ⟨Q + 1, 0, none⟩ = some (.int .i64 id2) := by rw [HBB.out.cell]; rfl
 have b1 : w5.cell? ⟨Q + 1, 1, none⟩ = some (.int .i64 arr2) := by rw [HBB.out.cell]; rfl
 have b2 : w5.cell? ⟨Q + 1, 2, none⟩ = some (.string (bstr fl2)) := by rw [HBB.out.cell]; rfl
 have b3 : w5.cell? ⟨Q + 1, 3, none⟩ = some (.string (bstr fd2)) := by rw [HBB.out.cell]; rfl
 have b4 : w5.cell? ⟨Q + 1, 4, none⟩ = some (.slice pt2 T2.length ct2) := by rw [HBB.out.cell]; rfl
 have b5 : w5.cell? ⟨Q + 1, 5, none⟩ = some (.slice ps2 S2.length cs2) := by rw [HBB.out.cell]; rfl
 have b6 : w5.cell? ⟨Q + 1, 6, none⟩ = some (.slice pb2 B2.length cb2) := by rw [HBB.out.cell]; rfl
 refine wp_region_noPanic ?_
 refine wp_region_held_drew (S := fun w' => Keeps (w5) w') (by kernel_rfl) ((Keeps.refl _).drew) (fun _ => ?_)
 have hHeld : Keeps (w5) (w5).drew := (Keeps.refl _).drew
 refine tq 0 15 ?_ (hy := fun w' hSw => by
  have hSw : Keeps _ w' := hSw
  have h0 := keep1 hSw a0
  have h1 := keep1 hSw a1
  have h2 := keep1 hSw a2
  have h3 := keep1 hSw a3
  have h4 := keep1 hSw a4
  have h5 := keep1 hSw a5
  have h6 := keep1 hSw a6
  clear hSw
  go_simp
  try with_reducible rfl)
 refine tq 1 16 ?_ (hy := fun w' hSw => by
  have hSw : Keeps _ w' := hSw
  have h0 := keep1 hSw b0
  have h1 := keep1 hSw b1
  have h2 := keep1 hSw b2
  have h3 := keep1 hSw b3
  have h4 := keep1 hSw b4
  have h5 := keep1 hSw b5
  have h6 := keep1 hSw b6
  clear hSw
  go_simp
  try with_reducible rfl)
 refine tq 3 18 ?_ (hy := fun w' hSw => by
  have hSw : Keeps _ w' := hSw
  have h0 := keep1 hSw a0
  have h1 := keep1 hSw a1
  have h2 := keep1 hSw a2
  have h3 := keep1 hSw a3
  have h4 := keep1 hSw a4
  have h5 := keep1 hSw a5
  have h6 := keep1 hSw a6
  clear hSw
  go_simp
  try with_reducible rfl)
 refine tq 4 19 ?_ (hy := fun w' hSw => by
  have hSw : Keeps _ w' := hSw
  have h0 := keep1 hSw b0
  have h1 := keep1 hSw b1
  have h2 := keep1 hSw b2
  have h3 := keep1 hSw b3
  have h4 := keep1 hSw b4
  have h5 := keep1 hSw b5
  have h6 := keep1 hSw b6
  clear hSw
  go_simp
  try with_reducible rfl)
 refine rd1 2 (fun K hK => ?_)
 go_simp
 refine (C1.out _ HK.out.drew).mono ?_
 rintro e w6 ⟨rfl, hk⟩
 have hb : Keeps _ w6 := hHeld.trans hk
 have HK := Lib.hid (HK.out.drew.trans hk)
 have HT := Lib.hid ((Keeps.refl w5).drew.trans hk)
 go_wp2_with fail
 refine bk1 hK hb ?_
 clear hK K hHeld hb hk
 intro hHeld
 refine rd1 5 (fun K hK => ?_)
 go_simp
 refine (C2.out _ HK.out).mono ?_
 rintro e w7 ⟨rfl, hk⟩
 have hb : Keeps _ w7 := hHeld.trans hk
 have HK := Lib.hid (HK.out.trans hk)
 have HT := Lib.hid (HT.out.trans hk)
 go_wp2_with fail
 refine bk1 hK hb ?_
 clear hK K hHeld hb hk
 intro hHeld
 refine tq 6 21 ?_
 refine tq 7 22 ?_
 refine tq 8 23 ?_ (hy := fun w' hSw => by
  have hSw : Keeps _ w' := hSw
  have h0 := keep1 hSw (keep1 HT.out a0)
  have h1 := keep1 hSw (keep1 HT.out a1)
  have h2 := keep1 hSw (keep1 HT.out a2)
  have h3 := keep1 hSw (keep1 HT.out a3)
  have h4 := keep1 hSw (keep1 HT.out a4)
  have h5 := keep1 hSw (keep1 HT.out a5)
  have h6 := keep1 hSw (keep1 HT.out a6)
  clear hSw
  go_simp
  try with_reducible rfl)
 refine tq 9 24 ?_ (hy := fun w' hSw => by
  have hSw : Keeps _ w' := hSw
  have h0 := keep1 hSw (keep1 HT.out a0)
  have h1 := keep1 hSw (keep1 HT.out a1)
  have h2 := keep1 hSw (keep1 HT.out a2)
  have h3 := keep1 hSw (keep1 HT.out a3)
  have h4 := keep1 hSw (keep1 HT.out a4)
  have h5 := keep1 hSw (keep1 HT.out a5)
  have h6 := keep1 hSw (keep1 HT.out a6)
  clear hSw
  go_simp
  try with_reducible rfl)
 refine rd1 10 (fun K hK => ?_)
 go_simp
 refine (C3.out _ HK.out).mono ?_
 rintro e w8 ⟨rfl, hk⟩
 have hb : Keeps _ w8 := hHeld.trans hk
 have HK := Lib.hid (HK.out.trans hk)
 go_wp2_with fail
 refine bk1 hK hb ?_
 clear hK K hHeld hb hk
 intro hHeld
 refine tq 11 26 ?_
 refine tq 12 4 ?_
 refine wpAnyH_done (by kernel_rfl) ?_ _
 refine NoPanic.normal ?_
 go_wp2_with fail
 go_ret
 exact ⟨rfl, HK.out⟩
end Env
end Go.Proofs.Ytkbibhlfehamgaa
