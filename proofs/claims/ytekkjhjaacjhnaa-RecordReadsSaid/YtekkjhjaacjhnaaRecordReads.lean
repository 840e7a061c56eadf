/- The law RecordReads, walked. -/
import Derived.Test.YtekkjhjaacjhnaaRecAwake
import Derived.Test.YtekkjhjaacjhnaaRecBackPlain
namespace Go.Proofs.Ytekkjhjaacjhnaa
open Go.RowKit
namespace Rcd
open Oct Frm

set_option maxRecDepth 100000 in
set_option maxHeartbeats 4000000 in
theorem recordReads_walk (W : World) (kind : Int) (v : Value) (l : List UInt8) (_wk : (Lit.int .i64 kind).wf = true) (hr : Row W v (l.map u8v)) : Calls Try.prog 8 #[.int .i64 kind, v] W fun e w' => e = .returned (.bool true) ∧ Keeps W w' := by
  clear _wk
  obtain ⟨pv, cv, rfl, hc1, hc2⟩ := hr.formB
  have HR := Lib.hid hr
  clear hr
  have bt := bstr_toList
  go_enter Try.func8, Try.ntmps8
  go_wp2_with fail
  refine (awake14_any _).mono ?_
  rintro e w2 ⟨rfl, hk2⟩
  have HK := Lib.hid hk2
  clear hk2
  by_cases h3 : 1000 < l.length
  · have e3 : decide (1000 < (l.length : Int)) = true := decide_eq_true (by omega)
    go_wp2_with fail
    go_ret
    exact ⟨rfl, HK.out⟩
  have e3 : decide (1000 < (l.length : Int)) = false := decide_eq_false (by omega)
  have C1 := Lib.hid (read_any kind (.slice pv l.length cv) l w2 (HR.out.keeps HK.out) (by omega))
  have C2 := Lib.hid (fun w h => rRead_any kind (.slice pv l.length cv) l w h)
  have HB := Lib.hid (read_back (k := kind) (l := l))
  go_wp2_with fail
  refine C1.out.mono ?_
  rintro e w3 ⟨d3, rfl, ho3, hk3⟩
  obtain ⟨p3, n3, c3, rfl⟩ := ho3.sl
  have HO3 := Lib.hid ho3.row
  have HK := Lib.hid (HK.out.trans hk3)
  clear ho3 hk3 C1
  have HS := Lib.hid (fun p n c w h1 h2 => rSame_any (readR kind l) (readR kind l) (.slice p3 n3 c3) (.slice p n c) w h1 h2)
  have HP := Lib.hid (fun w h => payload_any (readR kind l) (.slice p3 n3 c3) w h)
  unfold RReadDid at C2
  generalize readR kind l = rr at *
  generalize readE kind l = er at *
  unfold recA
  go_upto_region 6 with fail
  generalize hW : World.alloc w3 _ = w4
  have HA := Lib.hid (show Blk w4 w3.heap.size 30 (recA rr (.slice p3 n3 c3)) from by rw [← hW]; exact Blk.new _ _ _ rfl)
  have HO3 := Lib.hid (HO3.out.keeps (show Keeps w3 w4 from by rw [← hW]; exact (Keeps.refl _).alloc _))
  have HK := Lib.hid (HK.out.trans (show Keeps w3 w4 from by rw [← hW]; exact (Keeps.refl _).alloc _))
  clear hW
  generalize w3.heap.size = b at *
  go_wp2_with fail
  refine (C2.out w4 (HR.out.keeps HK.out)).mono ?_
  rintro e w5 ⟨p5, n5, c5, rfl, ho5, -, hk5⟩
  have HO5 := Lib.hid (ho5.keeps hk5)
  have HA := Lib.hid (HA.out.keeps hk5)
  have HO3 := Lib.hid (HO3.out.keeps hk5)
  have HK := Lib.hid (HK.out.trans hk5)
  clear ho5 hk5 C2
  unfold recA
  go_upto_region 7 with fail
  generalize hW : World.alloc w5 _ = w6
  have hk6 : Keeps w5 w6 := by rw [← hW]; exact (Keeps.refl _).alloc _
  have HB6 := Lib.hid (show Blk w6 w5.heap.size 30 (recA rr (.slice p5 n5 c5)) from by rw [← hW]; exact Blk.new _ _ _ rfl)
  have HA := Lib.hid (HA.out.keeps hk6)
  have HO3 := Lib.hid (HO3.out.keeps hk6)
  have HO5 := Lib.hid (HO5.out.keeps hk6)
  have HK := Lib.hid (HK.out.trans hk6)
  clear hW hk6
  generalize w5.heap.size = b2 at *
  obtain ⟨a0, a1, a2, a3, a4, a5, a6, a7, a8, a9, a10, a11⟩ := rec12 HA.out
  obtain ⟨b0, b1, b2', b3, b4, b5, b6, b7, b8, b9, b10, b11⟩ := rec12 HB6.out
  go_wp2_with fail
  refine (HS.out p5 n5 c5 w6 HO3.out HO5.out).mono ?_
  rintro e w7 ⟨rfl, hk7⟩
  simp only [decide_true]
  have HA := Lib.hid (HA.out.keeps hk7)
  have HO3 := Lib.hid (HO3.out.keeps hk7)
  have HK := Lib.hid (HK.out.trans hk7)
  clear hk7 HB6 a0 a1 a2 a3 a4 a5 a6 a7 a8 a9 a10 a11 b0 b1 b2' b3 b4 b5 b6 b7 b8 b9 b10 b11 HS
  by_cases he : er = 0
  · subst he
    obtain ⟨hb1, hb2⟩ := HB.out rfl
    obtain ⟨a0, a1, a2, a3, a4, a5, a6, a7, a8, a9, a10, a11⟩ := rec12 HA.out
    have HX := Lib.hid (HP.out w7 HO3.out)
    rw [hb1, hb2] at HX
    clear hb1 hb2 HB HP
    go_wp2_with fail
    refine HX.out.mono ?_
    rintro e w8 ⟨v8, rfl, ho8, hk8⟩
    obtain ⟨p8, n8, c8, rfl⟩ := ho8.sl
    have hs1 := rstr_at ho8.row
    have hs2 := rstr_at (HR.out.keeps (HK.out.trans hk8))
    have HK := Lib.hid (HK.out.trans hk8)
    clear ho8 hk8 HX
    go_wp2_with fail
    go_ret
    exact ⟨rfl, HK.out⟩
  · have he' : (er != 0) = true := by simp [he]
    clear he
    go_wp2_with fail
    go_ret
    exact ⟨rfl, HK.out⟩
end Rcd
end Go.Proofs.Ytekkjhjaacjhnaa
