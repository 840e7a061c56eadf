/- The law FrameScans, walked. -/
import Derived.Test.YtfmjlgkbohidjaaFrameRefScan
import Derived.Test.YtfmjlgkbohidjaaOctetLaws
namespace Go.Proofs.Ytfmjlgkbohidjaa
open Go.RowKit
namespace Frm
open Oct

set_option maxRecDepth 100000 in
set_option maxHeartbeats 2000000 in
theorem frameScans_walk (W : World) (v0 : Value) (l : List UInt8) (r0 : Row W v0 (l.map u8v)) : Calls Try.prog 10 #[v0] W fun e w' => e = .returned (.bool true) ∧ Keeps W w' := by
  obtain ⟨p, cap, rfl, hc1, hc2⟩ := r0.formB
  have HR := Lib.hid r0
  clear r0
  by_cases h3 : 1000 < l.length
  · go_enter Try.func10, Try.ntmps10
    go_wp2_with fail
    refine (awake_any _).mono ?_
    rintro e w1 ⟨rfl, hK1⟩
    go_wp2_with fail
    go_ret
    exact ⟨rfl, hK1⟩
  · have C3 := Lib.hid (fun w (k : Keeps W w) => scan_any (.slice p l.length cap) l w (HR.out.keeps k) (by omega))
    have C4 := Lib.hid (fun w (k : Keeps W w) => rScan_any (.slice p l.length cap) l w (HR.out.keeps k) (by omega))
    have hcn : (scanR l).1.length ≤ l.length ∧ (scanR l).2.length ≤ l.length + 1 := scanN_count _ _ _ _
    generalize scanR l = x at *
    obtain ⟨fs, gs⟩ := x
    simp only at hcn
    go_enter Try.func10, Try.ntmps10
    go_wp2_with fail
    refine (awake_any _).mono ?_
    rintro e w7 ⟨rfl, hK7⟩
    have HK7 := Lib.hid hK7
    clear hK7
    go_wp2_with fail
    refine (C3.out _ HK7.out).mono ?_
    rintro e w8 ⟨va, la, ga, rfl, hfa, hma, hga, hK8⟩
    obtain ⟨pa, ca, rfl, -, -⟩ := ownsRow_form hfa.own
    obtain ⟨qa, da, rfl, -, -⟩ := ownsRow_form hga
    have hla : la.length = fs.length := by
      have h := congrArg List.length hma
      simpa using h
    have HFA := Lib.hid hfa
    have HMA := Lib.hid hma
    have HGA := Lib.hid hga
    have HK8 := Lib.hid (HK7.out.trans hK8)
    have HLA := Lib.hid hla
    clear hfa hma hK8 hga hla
    go_wp2_with fail
    refine (C4.out _ HK8.out).mono ?_
    rintro e w9 ⟨vb, lb, gb, rfl, hfb, hmb, hgb, hK9⟩
    obtain ⟨pb, cb, rfl, -, -⟩ := ownsRow_form hfb.own
    obtain ⟨qb, db, rfl, -, -⟩ := ownsRow_form hgb
    have HFA9 := Lib.hid (HFA.out.keeps hK9)
    have HGA9 := Lib.hid (ownsRow_keeps HGA.out hK9)
    have HFB := Lib.hid hfb
    have HMB := Lib.hid hmb
    have HGB := Lib.hid hgb
    have HK9 := Lib.hid (HK8.out.trans hK9)
    clear hfb hmb hK9 hgb
    go_wp2_with fail
    have hS := same_any _ _ _ _ _ _ _ (HFA9.out.keeps ((Keeps.refl _).alloc (.cells #[.slice pb lb.length cb, .slice qb gs.length db] 72))) (HFB.out.keeps ((Keeps.refl _).alloc _)) (HMA.out.trans HMB.out.symm) (by rw [HLA.out]; omega)
    refine hS.mono ?_
    rintro e w10 ⟨rfl, hk10⟩
    have hB := (Blk.new w9 72 #[.slice pb lb.length cb, .slice qb gs.length db] rfl).keeps hk10
    have hc1' : w10.cell? ⟨w9.heap.size, 1, none⟩ = some (.slice qb gs.length db) := by rw [hB.cell]; rfl
    have HK10 := Lib.hid ((HK9.out.alloc _).trans hk10)
    have hS2 := sameGaps_any _ _ gs _ _ w10 (ownsRow_keeps HGA9.out (((Keeps.refl _).alloc _).trans hk10)) (ownsRow_keeps HGB.out (((Keeps.refl _).alloc _).trans hk10)) (by omega)
    have HS2 := Lib.hid hS2
    clear hS hB hk10 hS2
    go_wp2_with fail
    refine HS2.out.mono ?_
    rintro e w11 ⟨rfl, hk11⟩
    go_wp2_with fail
    go_ret
    exact ⟨rfl, HK10.out.trans hk11⟩
end Frm
end Go.Proofs.Ytfmjlgkbohidjaa
