/- The law RecordScans, walked. -/
import Derived.Test.YtekkjhjaacjhnaaRecRefScan
import Derived.Test.YtekkjhjaacjhnaaRecSameLot
import Derived.Test.YtekkjhjaacjhnaaRecAwake
namespace Go.Proofs.Ytekkjhjaacjhnaa
open Go.RowKit
namespace Rcd
open Oct Frm

set_option maxRecDepth 100000 in
set_option maxHeartbeats 2000000 in
theorem recordScans_walk (W : World) (v : Value) (l : List UInt8) (hr : Row W v (l.map u8v)) : Calls Try.prog 9 #[v] W fun e w' => e = .returned (.bool true) ∧ Keeps W w' := by
  obtain ⟨pv, cv, rfl, hc1, hc2⟩ := hr.formB
  have HR := Lib.hid hr
  clear hr
  go_enter Try.func9, Try.ntmps9
  go_wp2_with fail
  refine (awake14_any _).mono ?_
  rintro e w2 ⟨rfl, hk2⟩
  have HK := Lib.hid hk2
  clear hk2
  by_cases h3 : 1000 < l.length
  · have e3 : decide (1000 < (l.length : Int)) = true := decide_eq_true (by omega)
    go_wp2_with fail
    go_ret
    exact ⟨rfl, HK.out⟩
  have e3 : decide (1000 < (l.length : Int)) = false := decide_eq_false (by omega)
  have C1 := Lib.hid (rcScan_any (.slice pv l.length cv) l w2 (HR.out.keeps HK.out) (by omega))
  have C2 := Lib.hid (fun w h => rcRefScan_any (.slice pv l.length cv) l w h (by omega))
  have HLN : Hid ((fndL (scanR l).1).length ≤ l.length) := Lib.hid (Nat.le_trans (fndL_len _) (scanN_count l l.length 0 0).1)
  unfold RecScanDid at C1
  unfold RLotDid at C2
  generalize lenL (scanR l).1 = br at *
  generalize fndL (scanR l).1 = fs at *
  go_wp2_with fail
  refine C1.out.mono ?_
  rintro e w3 ⟨v3, l3, rfl, hf3, hm3, hk3⟩
  obtain ⟨p3, c3, rfl, -, -⟩ := ownsRow_form hf3.own
  have HF3 := Lib.hid hf3
  have HM3 := Lib.hid hm3
  have HK := Lib.hid (HK.out.trans hk3)
  clear hf3 hm3 hk3 C1
  go_wp2_with fail
  refine (C2.out w3 (HR.out.keeps HK.out)).mono ?_
  rintro e w4 ⟨p4, c4, l4, rfl, hf4, hm4, hk4⟩
  have HF3 := Lib.hid (HF3.out.keeps hk4)
  have HK := Lib.hid (HK.out.trans hk4)
  have HSL := Lib.hid (fun w' (k : Keeps w4 w') => sameLot_any _ _ l3 l4 _ _ w' (HF3.out.keeps k) (hf4.keeps k) (HM3.out.trans hm4.symm) (by have h1 := congrArg List.length HM3.out; rw [List.length_map] at h1; have := HLN.out; omega))
  clear hf4 hm4 hk4 C2
  go_upto_region 7 with fail
  generalize hW : World.alloc w4 _ = w5
  have HK5 := Lib.hid (show Keeps w4 w5 from by rw [← hW]; exact (Keeps.refl _).alloc _)
  have HB := Lib.hid (show Blk w5 w4.heap.size 77 #[.slice p4 l4.length c4, .int .i64 ((l.length : Int) - br)] from by rw [← hW]; exact Blk.new _ _ _ rfl)
  clear hW
  generalize w4.heap.size = b at *
  have x0 : w5.cell? ⟨b, 0, none⟩ = some (.slice p4 l4.length c4) := by rw [HB.out.cell]; rfl
  go_wp2_with fail
  refine (HSL.out w5 HK5.out).mono ?_
  rintro e w6 ⟨rfl, hk6⟩
  have x1 : w6.cell? ⟨b, 1, none⟩ = some (.int .i64 ((l.length : Int) - br)) := by rw [(HB.out.keeps hk6).cell]; rfl
  go_wp2_with fail
  go_ret
  exact ⟨rfl, (HK.out.trans HK5.out).trans hk6⟩
end Rcd
end Go.Proofs.Ytekkjhjaacjhnaa
