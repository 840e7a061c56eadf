/- What the document tells of jobs' files: awake. -/
import Derived.Test.YtkbibhlfehamgaaK18
import Derived.Test.YtkbibhlfehamgaaEnGet
import Derived.Test.YtkbibhlfehamgaaK07
import Derived.Test.YtkbibhlfehamgaaFrameAwake
namespace Go.Proofs.Ytkbibhlfehamgaa
open Go.RowKit
namespace Env
open Adr (Str)
open Oct (u8ok)
open Frm (ownsRow_keeps ownsRow_form rowS_lit row_mark own_lit ownsRow_at alloc_size RetSI)
def J0 : JobP := ⟨1, 5, [97], [120], [⟨1, [98], [120]⟩], [⟨0, 0, 5, 0⟩], [104, 105]⟩
def X0 : StP := ⟨1, 0, 0, 0⟩
def J1 : JobP := ⟨1, 5, [97], [120], [⟨1, [98], [120]⟩], [⟨1, 0, 0, 0⟩], [104, 105]⟩
theorem j0_len : (bytesL J0).length = 61 := by kernel_rfl
theorem s0_len : (stepL 0 X0).length = 24 := by kernel_rfl
theorem j0_e : bytesE J0 = 0 := by kernel_rfl
theorem s0_e : stepE 0 X0 = 0 := by kernel_rfl
theorem r0_read : readR (bytesL J0 ++ stepL 0 X0) = (J1, 85, 0) := by kernel_rfl
theorem short0 : Short J0 := by
 refine ⟨by decide, by decide, ?_, by decide, by decide, by decide⟩
 intro t ht
 simp only [J0, List.mem_singleton] at ht
 subst ht
 exact ⟨by decide, by decide, by decide⟩
set_option maxRecDepth 100000 in
set_option maxHeartbeats 2000000 in
theorem awake15_any (w : World) : Calls Try.prog 6 #[] w fun e w' => e = .returned (.bool true) ∧ Keeps w w' := by
 have HT0 := Lib.hid (show RowS (w.alloc (.cells #[.int .i64 1, .string ⟨#[98]⟩, .string ⟨#[120]⟩] 47)) 3 (.slice (some ⟨w.heap.size, 0, none⟩) 1 1) 1 ([⟨1, [98], [120]⟩].flatMap tgC) from rowS_lit rfl rfl rfl)
 have HK0 := Lib.hid (show Keeps w (w.alloc (.cells #[.int .i64 1, .string ⟨#[98]⟩, .string ⟨#[120]⟩] 47)) from (Keeps.refl _).alloc _)
 have kc := fun (w : World) (C : Array Value) (n c : Nat) => Lib.run_convert_bytes_const (P := Try.prog) w 22 5 C n c Try.underlying22 Try.underlying5
 go_enter Try.func6, Try.ntmps6
 go_wp2_with fail
 refine (fresh_any _ _).mono ?_
 rintro e w1 ⟨rfl, hk⟩
 have HT1 := Lib.hid (HT0.out.keeps hk)
 have HK1 := Lib.hid (HK0.out.trans hk)
 clear hk HT0 HK0
 generalize w.heap.size = bT at *
 have kc2 := kc (w1.alloc (.cells #[.int .i64 0, .int .i64 0, .int .i64 5, .int .i64 0] 44)) #[.int .u8 104, .int .u8 105] 2 2
 rw [alloc_size] at kc2
 clear kc
 go_upto_region 2 with fail
 generalize hW : World.alloc (World.alloc (World.alloc w1 _) _) _ = w2
 obtain ⟨bJ, hbJ⟩ : ∃ z, z = w1.heap.size + 2 := ⟨_, rfl⟩
 have HJ := Lib.hid (show Blk w2 bJ 29 #[.int .i64 1, .int .i64 5, .string ⟨#[97]⟩, .string ⟨#[120]⟩, .slice (some ⟨bT, 0, none⟩) 1 1, .slice (some ⟨w1.heap.size, 0, none⟩) 1 1, .slice (some ⟨w1.heap.size + 1, 0, none⟩) 2 2] from by rw [← hW]; exact Blk.new _ _ _ (by rw [hbJ, alloc_size, alloc_size]))
 have HAT := Lib.hid (show JobAt w2 J0 (.slice (some ⟨bT, 0, none⟩) 1 1) (.slice (some ⟨w1.heap.size, 0, none⟩) 1 1) (.slice (some ⟨w1.heap.size + 1, 0, none⟩) 2 2) from by
  rw [← hW]
  refine ⟨?_, ?_, ?_⟩
  ·exact HT1.out.keeps ((((Keeps.refl w1).alloc _).alloc _).alloc _)
  ·exact RowS.keeps (w := w1.alloc _) (rowS_lit (l := stC ⟨0, 0, 5, 0⟩) rfl rfl rfl) (((Keeps.refl _).alloc _).alloc _)
  ·have h := Frm.row_mark (w := w1.alloc (.cells #[.int .i64 0, .int .i64 0, .int .i64 5, .int .i64 0] 44)) (b := w1.heap.size + 1) (cs := #[.int .u8 104, .int .u8 105]) (e := 5) (fr := (2, 3)) (l := ([104, 105] : List UInt8).map u8v) (by rw [alloc_size]) rfl (by decide)
   exact Row.keeps h ((Keeps.refl _).alloc _))
 have HK2 := Lib.hid (show Keeps w w2 from by rw [← hW]; exact ((HK1.out.alloc _).alloc _).alloc _)
 clear hW kc2 HT1 HK1
 rw [show w1.heap.size + 1 + 1 = bJ from hbJ.symm]
 clear hbJ
 generalize w1.heap.size + 1 = bB at *
 generalize w1.heap.size = bS at *
 have CB := Lib.hid (bytes_any w2 J0 _ _ _ HAT.out short0)
 rw [j0_e] at CB
 have HBL := Lib.hid j0_len
 have HSL := Lib.hid s0_len
 have HRR := Lib.hid r0_read
 have CS := Lib.hid (fun w => stepS_any w 0 X0)
 rw [s0_e] at CS
 generalize bytesL J0 = b at *
 generalize stepL 0 X0 = s at *
 unfold RetSI at CB CS
 go_wp2_with (refine wpList_ld rfl jobM HJ.out _ rfl rfl ?_)
 refine CB.out.mono ?_
 rintro e w3 ⟨v3, rfl, ho3, hk3⟩
 obtain ⟨p3, c3, hv, hc3, -⟩ := ho3.row.formB
 rw [HBL.out] at hv hc3
 subst hv
 have HO3 := Lib.hid ho3
 have HJ3 := Lib.hid (HJ.out.keeps hk3)
 have HA3 := Lib.hid (HAT.out.keeps hk3)
 have HK3 := Lib.hid (HK2.out.trans hk3)
 clear ho3 hk3 CB HJ HAT
 go_wp2_with fail
 have CS3 := Lib.hid (CS.out w3)
 unfold X0 stA at CS3
 refine CS3.out.mono ?_
 rintro e w4 ⟨v4, rfl, ho4, hk4⟩
 obtain ⟨p4, c4, hv, hc4, -⟩ := ho4.row.formB
 rw [HSL.out] at hv hc4
 subst hv
 have HO4 := Lib.hid ho4
 have HOB := Lib.hid (HO3.out.row.keeps hk4)
 have HJ4 := Lib.hid (HJ3.out.keeps hk4)
 have HA4 := Lib.hid (HA3.out.keeps hk4)
 have HK4 := Lib.hid (HK3.out.trans hk4)
 have hsz : w.heap.size ≤ w4.heap.size := HK4.out.size
 clear ho4 hk4 CS CS3 HJ3 HA3 HO3
 have hlb : (b.map u8v).length = 61 := by rw [List.length_map]; exact HBL.out
 have hls : (s.map u8v).length = 24 := by rw [List.length_map]; exact HSL.out
 have HLL := Lib.hid (And.intro hlb hls)
 clear hlb hls
 have HZ0 := Lib.hid (show Own (w4.alloc (.cells #[] 5)) w4.heap.size 5 (.slice (some ⟨w4.heap.size, 0, none⟩) 0 0) [] from own_lit (l := []) rfl rfl (Nat.le_refl _) (by decide))
 have HZ1 := Lib.hid (show Row (w4.alloc (.cells #[] 5)) (.slice p3 61 c3) (b.map u8v) from HOB.out.keeps ((Keeps.refl _).alloc _))
 go_wp2_with (first | (at_builtin; refine wpList_app1 (base := w4.heap.size) u8ok rfl _ _ rfl (.slice (some ⟨w4.heap.size, 0, none⟩) 0 0) (.slice p3 61 c3) [] (b.map u8v) rfl rfl HZ0.out HZ1.out (oneCell_map_u8 _) (by rw [HLL.out.1]; decide) (by decide) (by rw [alloc_size]; omega) ?_; intro v5 w5 ho5 hg5 hf5; rw [List.nil_append] at ho5; have HK5 := Lib.hid (show Keeps w4 w5 from ((Keeps.refl _).alloc _).grown hg5 (fun x hx => by simp [Value.ownBlock] at hx; omega)); obtain ⟨p5, c5, hv5, -, -⟩ := ho5.row.formB; rw [HBL.out] at hv5; subst hv5; have HO5 := Lib.hid ho5; clear ho5 hg5 hf5) | (at_builtin; refine wpList_app1 (base := w4.heap.size) u8ok rfl _ _ rfl (.slice p5 61 c5) (.slice p4 24 c4) (b.map u8v) (s.map u8v) rfl rfl HO5.out (HO4.out.row.keeps HK5.out) (oneCell_map_u8 _) (by rw [HLL.out.1, HLL.out.2]; decide) (by decide) HK5.out.size ?_; intro v6 w6 ho6 hg6 hf6; rw [← List.map_append] at ho6; have HK6 := Lib.hid (show Keeps w4 w6 from HK5.out.grown hg6 (fun x hx => HO5.out.base x hx)); obtain ⟨p6, c6, hv6, -, -⟩ := ho6.row.formB; rw [List.length_append, HBL.out, HSL.out] at hv6; change v6 = .slice p6 85 c6 at hv6; subst hv6; have HO6 := Lib.hid ho6; clear ho6 hg6 hf6))
 have HR := Lib.hid (read_any _ (b ++ s) w6 HO6.out.row (by rw [List.length_append, HBL.out, HSL.out]; decide))
 rw [HRR.out] at HR
 unfold ReadRet at HR
 refine HR.out.mono ?_
 rintro e w7 ⟨vt, vs, vb, rfl, hat, hk7⟩
 have HA7 := Lib.hid hat
 have HK7 := Lib.hid (HK6.out.trans hk7)
 have HJ7 := Lib.hid (HJ4.out.keeps HK7.out)
 have HI7 := Lib.hid (HA4.out.keeps HK7.out)
 have HW7 := Lib.hid (HK4.out.trans HK7.out)
 obtain ⟨pt, ct, rfl, -, -⟩ := hat.tos.form
 obtain ⟨bs, os, cs, rfl, -, -, hs⟩ := hat.st.at_ (by decide)
 obtain ⟨pb, cb, rfl, -, -⟩ := hat.body.formB
 have hs0 : w7.cell? ⟨bs, os, none⟩ = some (.int .i64 1) := hs.out 0 _ rfl
 clear hat hk7 hs HR HRR HO6 HJ4 HA4 HK4 HK6 HK5 HO5 HO4 HOB HZ0 HZ1
 go_upto_region 5 with fail
 generalize hW : World.alloc w7 _ = w8
 obtain ⟨bX, hbX⟩ : ∃ z, z = w7.heap.size := ⟨_, rfl⟩
 have HX := Lib.hid (show Blk w8 bX 29 (jobA J1 (.slice pt 1 ct) (.slice (some ⟨bs, os, none⟩) 1 cs) (.slice pb 2 cb)) from by rw [← hW]; exact Blk.new _ _ _ hbX)
 have HKW := Lib.hid (show Keeps w7 w8 from by rw [← hW]; exact (Keeps.refl _).alloc _)
 clear hW
 rw [← hbX]
 clear hbX
 have hs1 := keep1 HKW.out hs0
 have HA8 := Lib.hid (HA7.out.keeps HKW.out)
 have HI8 := Lib.hid (HI7.out.keeps HKW.out)
 have HJ8 := Lib.hid (HJ7.out.keeps HKW.out)
 have HW8 := Lib.hid (HW7.out.trans HKW.out)
 clear HA7 HI7 HJ7 HW7 HKW hs0
 have q0 : w8.cell? ⟨bX, 0, none⟩ = some (.int .i64 1) := by rw [HX.out.cell]; rfl
 have q1 : w8.cell? ⟨bX, 1, none⟩ = some (.int .i64 5) := by rw [HX.out.cell]; rfl
 have q2 : w8.cell? ⟨bX, 2, none⟩ = some (.string (bstr [97])) := by rw [HX.out.cell]; rfl
 have q3 : w8.cell? ⟨bX, 3, none⟩ = some (.string (bstr [120])) := by rw [HX.out.cell]; rfl
 have q4 : w8.cell? ⟨bX, 4, none⟩ = some (.slice pt 1 ct) := by rw [HX.out.cell]; rfl
 have q5 : w8.cell? ⟨bX, 5, none⟩ = some (.slice (some ⟨bs, os, none⟩) 1 cs) := by rw [HX.out.cell]; rfl
 have q6 : w8.cell? ⟨bX, 6, none⟩ = some (.slice pb 2 cb) := by rw [HX.out.cell]; rfl
 have hw85 : IntKind.i64.wrap (61 + 24) = 85 := by decide
 go_wp2_with fail
 refine (done_any w8 J1 _ _ _ HA8.out (by decide)).mono ?_
 rintro e w9 ⟨rfl, hk9⟩
 rw [show doneB J1 = true from rfl]
 have HJ9 := Lib.hid (HJ8.out.keeps hk9)
 have HI9 := Lib.hid (HI8.out.keeps hk9)
 have HW9 := Lib.hid (HW8.out.trans hk9)
 have j0 : w9.cell? ⟨bJ, 0, none⟩ = some (.int .i64 1) := by rw [HJ9.out.cell]; rfl
 have j1 : w9.cell? ⟨bJ, 1, none⟩ = some (.int .i64 5) := by rw [HJ9.out.cell]; rfl
 have j2 : w9.cell? ⟨bJ, 2, none⟩ = some (.string (bstr [97])) := by rw [HJ9.out.cell]; rfl
 have j3 : w9.cell? ⟨bJ, 3, none⟩ = some (.string (bstr [120])) := by rw [HJ9.out.cell]; rfl
 have j4 : w9.cell? ⟨bJ, 4, none⟩ = some (.slice (some ⟨bT, 0, none⟩) 1 1) := by rw [HJ9.out.cell]; rfl
 have j5 : w9.cell? ⟨bJ, 5, none⟩ = some (.slice (some ⟨bS, 0, none⟩) 1 1) := by rw [HJ9.out.cell]; rfl
 have j6 : w9.cell? ⟨bJ, 6, none⟩ = some (.slice (some ⟨bB, 0, none⟩) 2 2) := by rw [HJ9.out.cell]; rfl
 clear hk9 q0 q1 q2 q3 q4 q5 q6
 go_wp2_with fail
 refine (done_any w9 J0 _ _ _ HI9.out (by decide)).mono ?_
 rintro e w10 ⟨rfl, hk10⟩
 rw [show doneB J0 = false from rfl]
 go_wp2_with fail
 go_ret
 exact ⟨rfl, HW9.out.trans hk10⟩
end Env
end Go.Proofs.Ytkbibhlfehamgaa
