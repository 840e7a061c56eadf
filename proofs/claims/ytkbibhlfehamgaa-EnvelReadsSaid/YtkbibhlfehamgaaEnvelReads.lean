/- The law EnvelReads, walked. Printed by gen_enwalks.py. -/
import Derived.Test.YtkbibhlfehamgaaK10
import Derived.Test.YtkbibhlfehamgaaEnAwake
import Derived.Test.YtkbibhlfehamgaaEnRefGet
namespace Go.Proofs.Ytkbibhlfehamgaa
open Go.RowKit
namespace Env
open Adr (Str)
theorem stepsR_len (n : Nat) : ∀ (fs : List Frm.Fr1) (st : List StP), (stepsR n fs st).1.length = st.length
 | [], _ => rfl
 | f :: r, st => by
  rw [stepsR]
  split
  ·have := stepsR_len n r (st.set (stR capT f.pay).1.1 (stR capT f.pay).1.2)
   simpa using this
  ·rfl
theorem readF_small (fs : List Frm.Fr1) : (readF fs).1.tos.length ≤ 20 ∧ (readF fs).1.st.length ≤ 20 := by
 unfold readF
 split
 ·split
  ·rename_i f g r h
   have h1 : envB (envR 100 capId capT f.pay).1 = true := by
    have := h.2.2.2
    unfold envOk at this
    simp only [Bool.and_eq_true] at this
    exact this.2
   have h2 := envB_len h1
   simp only
   rw [stepsR_len, List.length_replicate]
   exact ⟨h2, h2⟩
  ·simp [noJob]
 ·simp [noJob]
set_option maxRecDepth 100000 in
set_option maxHeartbeats 4000000 in
theorem envelReads_walk (W : World) (v : Value) (l : List UInt8) (hr : Row W v (l.map u8v)) : Calls Try.prog 3 #[v] W fun e w' => e = .returned (.bool true) ∧ Keeps W w' := by
 obtain ⟨p, cap, rfl, -, -⟩ := hr.formB
 have HR := Lib.hid hr
 clear hr
 go_enter Try.func3, Try.ntmps3
 go_wp2_with fail
 refine (awake15_any _).mono ?_
 rintro e w1 ⟨rfl, hk⟩
 have HK := Lib.hid hk
 clear hk
 by_cases hl : 2000 < l.length
 ·have e1 : decide ((2000 : Int) < (l.length : Int)) = true := decide_eq_true (by omega)
  go_wp2_with fail
  go_ret
  exact ⟨rfl, HK.out⟩
 have e1 : decide ((2000 : Int) < (l.length : Int)) = false := decide_eq_false (by omega)
 have HL := Lib.hid (show l.length ≤ 2000 by omega)
 clear hl
 have HS := Lib.hid (show (readR l).1.tos.length ≤ 20 ∧ (readR l).1.st.length ≤ 20 from readF_small _)
 have C1 := Lib.hid (fun (w : World) (k : Keeps W w) => read_any _ l w (HR.out.keeps k) (Nat.le_trans HL.out (by decide)))
 have C2 := Lib.hid (fun (w : World) (k : Keeps W w) => rread_any _ l w (HR.out.keeps k) (Nat.le_trans HL.out (by decide)))
 generalize readR l = R at *
 obtain ⟨⟨id1, arr1, fl1, fd1, T1, S1, B1⟩, u, er⟩ := R
 unfold ReadRet at C1
 unfold RReadRet at C2
 simp only at C1 C2 HS
 go_wp2_with fail
 refine (C1.out _ HK.out).mono ?_
 rintro e w2 ⟨vt, vs, vb, rfl, hat, hk⟩
 obtain ⟨pt1, ct1, rfl, -, -⟩ := hat.tos.form
 obtain ⟨ps1, cs1, rfl, -, -⟩ := hat.st.form
 obtain ⟨pb1, cb1, rfl, -, -⟩ := hat.body.formB
 simp only at hat ⊢
 have HA := Lib.hid hat
 have HK2 := Lib.hid (HK.out.trans hk)
 clear hat hk HK e1
 go_upto_region 6 with fail
 generalize hW : World.alloc w2 _ = w3
 obtain ⟨gA, hgA⟩ : ∃ z, z = w2.heap.size := ⟨_, rfl⟩
 have HAB := Lib.hid (show Blk w3 gA 29 (jobA ⟨id1, arr1, fl1, fd1, T1, S1, B1⟩ (.slice pt1 T1.length ct1) (.slice ps1 S1.length cs1) (.slice pb1 B1.length cb1)) from by rw [← hW]; exact Blk.new _ _ _ hgA)
 have HA3 := Lib.hid (show JobAt w3 ⟨id1, arr1, fl1, fd1, T1, S1, B1⟩ (.slice pt1 T1.length ct1) (.slice ps1 S1.length cs1) (.slice pb1 B1.length cb1) from by rw [← hW]; exact HA.out.keeps ((Keeps.refl _).alloc _))
 have HK3 := Lib.hid (show Keeps W w3 from by rw [← hW]; exact HK2.out.alloc _)
 clear hW HA HK2
 rw [← hgA]
 clear hgA
 go_wp2_with fail
 refine (C2.out _ HK3.out).mono ?_
 rintro e w4 ⟨vt, vs, vb, rfl, hat, hk⟩
 obtain ⟨pt2, ct2, rfl, -, -⟩ := hat.tos.form
 obtain ⟨ps2, cs2, rfl, -, -⟩ := hat.st.form
 obtain ⟨pb2, cb2, rfl, -, -⟩ := hat.body.formB
 simp only at hat ⊢
 have HB := Lib.hid hat
 have HA4 := Lib.hid (HA3.out.keeps hk)
 have HAB4 := Lib.hid (HAB.out.keeps hk)
 have HK4 := Lib.hid (HK3.out.trans hk)
 clear hat hk C1 C2 HA3 HAB HK3
 go_upto_region 7 with fail
 generalize hW : World.alloc w4 _ = w5
 obtain ⟨gB, hgB⟩ : ∃ z, z = w4.heap.size := ⟨_, rfl⟩
 have HBB := Lib.hid (show Blk w5 gB 34 #[.int .i64 id1, .int .i64 arr1, .string (bstr fl1), .string (bstr fd1), .slice pt2 T1.length ct2, .slice ps2 S1.length cs2, .slice pb2 B1.length cb2, .int .i64 u, .int .i64 er] from by rw [← hW]; exact Blk.new _ _ _ hgB)
 have hk5 : Keeps w4 w5 := by rw [← hW]; exact (Keeps.refl _).alloc _
 have HA5 := Lib.hid (HA4.out.keeps hk5)
 have HB5 := Lib.hid (HB.out.keeps hk5)
 have HAB5 := Lib.hid (HAB4.out.keeps hk5)
 have HK5 := Lib.hid (HK4.out.trans hk5)
 clear hW hk5 HA4 HB HAB4 HK4
 rw [← hgB]
 clear hgB
 have HTL := Lib.hid (show T1.length ≤ 1000000 from Nat.le_trans HS.out.1 (by decide))
 have HSL := Lib.hid (show S1.length ≤ 1000000 from Nat.le_trans HS.out.2 (by decide))
 have a0 : w5.cell? ⟨gA, 0, none⟩ = some (.int .i64 id1) := by rw [HAB5.out.cell]; rfl
 have a1 : w5.cell? ⟨gA, 1, none⟩ = some (.int .i64 arr1) := by rw [HAB5.out.cell]; rfl
 have a2 : w5.cell? ⟨gA, 2, none⟩ = some (.string (bstr fl1)) := by rw [HAB5.out.cell]; rfl
 have a3 : w5.cell? ⟨gA, 3, none⟩ = some (.string (bstr fd1)) := by rw [HAB5.out.cell]; rfl
 have a4 : w5.cell? ⟨gA, 4, none⟩ = some (.slice pt1 T1.length ct1) := by rw [HAB5.out.cell]; rfl
 have a5 : w5.cell? ⟨gA, 5, none⟩ = some (.slice ps1 S1.length cs1) := by rw [HAB5.out.cell]; rfl
 have a6 : w5.cell? ⟨gA, 6, none⟩ = some (.slice pb1 B1.length cb1) := by rw [HAB5.out.cell]; rfl
 have b0 : w5.cell? ⟨gB, 0, none⟩ = some (.int .i64 id1) := by rw [HBB.out.cell]; rfl
 have b1 : w5.cell? ⟨gB, 1, none⟩ = some (.int .i64 arr1) := by rw [HBB.out.cell]; rfl
 have b2 : w5.cell? ⟨gB, 2, none⟩ = some (.string (bstr fl1)) := by rw [HBB.out.cell]; rfl
 have b3 : w5.cell? ⟨gB, 3, none⟩ = some (.string (bstr fd1)) := by rw [HBB.out.cell]; rfl
 have b4 : w5.cell? ⟨gB, 4, none⟩ = some (.slice pt2 T1.length ct2) := by rw [HBB.out.cell]; rfl
 have b5 : w5.cell? ⟨gB, 5, none⟩ = some (.slice ps2 S1.length cs2) := by rw [HBB.out.cell]; rfl
 have b6 : w5.cell? ⟨gB, 6, none⟩ = some (.slice pb2 B1.length cb2) := by rw [HBB.out.cell]; rfl
 have b7 : w5.cell? ⟨gB, 7, none⟩ = some (.int .i64 u) := by rw [HBB.out.cell]; rfl
 have b8 : w5.cell? ⟨gB, 8, none⟩ = some (.int .i64 er) := by rw [HBB.out.cell]; rfl
 go_wp2_with fail
 refine (same_any _ ⟨id1, arr1, fl1, fd1, T1, S1, B1⟩ ⟨id1, arr1, fl1, fd1, T1, S1, B1⟩ _ _ _ _ _ _ HA5.out HB5.out HTL.out HSL.out).mono ?_
 rintro e w6 ⟨rfl, hk⟩
 rw [decide_eq_true rfl]
 have HA6 := Lib.hid (HA5.out.keeps hk)
 have HB6 := Lib.hid (HB5.out.keeps hk)
 have HAB6 := Lib.hid (HAB5.out.keeps hk)
 have HBB := Lib.hid (HBB.out.keeps hk)
 have HK6 := Lib.hid (HK5.out.trans hk)
 clear hk a0 a1 a2 a3 a4 a5 a6 b0 b1 b2 b3 b4 b5 b6 b7 b8 HA5 HB5 HAB5 HK5
 have a0 : w6.cell? ⟨gA, 0, none⟩ = some (.int .i64 id1) := by rw [HAB6.out.cell]; rfl
 have a1 : w6.cell? ⟨gA, 1, none⟩ = some (.int .i64 arr1) := by rw [HAB6.out.cell]; rfl
 have a2 : w6.cell? ⟨gA, 2, none⟩ = some (.string (bstr fl1)) := by rw [HAB6.out.cell]; rfl
 have a3 : w6.cell? ⟨gA, 3, none⟩ = some (.string (bstr fd1)) := by rw [HAB6.out.cell]; rfl
 have a4 : w6.cell? ⟨gA, 4, none⟩ = some (.slice pt1 T1.length ct1) := by rw [HAB6.out.cell]; rfl
 have a5 : w6.cell? ⟨gA, 5, none⟩ = some (.slice ps1 S1.length cs1) := by rw [HAB6.out.cell]; rfl
 have a6 : w6.cell? ⟨gA, 6, none⟩ = some (.slice pb1 B1.length cb1) := by rw [HAB6.out.cell]; rfl
 have b0 : w6.cell? ⟨gB, 0, none⟩ = some (.int .i64 id1) := by rw [HBB.out.cell]; rfl
 have b1 : w6.cell? ⟨gB, 1, none⟩ = some (.int .i64 arr1) := by rw [HBB.out.cell]; rfl
 have b2 : w6.cell? ⟨gB, 2, none⟩ = some (.string (bstr fl1)) := by rw [HBB.out.cell]; rfl
 have b3 : w6.cell? ⟨gB, 3, none⟩ = some (.string (bstr fd1)) := by rw [HBB.out.cell]; rfl
 have b4 : w6.cell? ⟨gB, 4, none⟩ = some (.slice pt2 T1.length ct2) := by rw [HBB.out.cell]; rfl
 have b5 : w6.cell? ⟨gB, 5, none⟩ = some (.slice ps2 S1.length cs2) := by rw [HBB.out.cell]; rfl
 have b6 : w6.cell? ⟨gB, 6, none⟩ = some (.slice pb2 B1.length cb2) := by rw [HBB.out.cell]; rfl
 have b7 : w6.cell? ⟨gB, 7, none⟩ = some (.int .i64 u) := by rw [HBB.out.cell]; rfl
 have b8 : w6.cell? ⟨gB, 8, none⟩ = some (.int .i64 er) := by rw [HBB.out.cell]; rfl
 go_wp2_with fail
 refine (rsame_any _ ⟨id1, arr1, fl1, fd1, T1, S1, B1⟩ ⟨id1, arr1, fl1, fd1, T1, S1, B1⟩ _ _ _ _ _ _ HA6.out HB6.out HTL.out HSL.out).mono ?_
 rintro e w7 ⟨rfl, hk⟩
 rw [decide_eq_true rfl]
 have HBB := Lib.hid (HBB.out.keeps hk)
 have HK7 := Lib.hid (HK6.out.trans hk)
 clear hk a0 a1 a2 a3 a4 a5 a6 b0 b1 b2 b3 b4 b5 b6 b7 b8
 have b7 : w7.cell? ⟨gB, 7, none⟩ = some (.int .i64 u) := by rw [HBB.out.cell]; rfl
 have b8 : w7.cell? ⟨gB, 8, none⟩ = some (.int .i64 er) := by rw [HBB.out.cell]; rfl
 have eu : (u == u) = true := by simp
 have ee : (er == er) = true := by simp
 go_wp2_with fail
 go_ret
 exact ⟨rfl, HK7.out⟩
end Env
end Go.Proofs.Ytkbibhlfehamgaa
