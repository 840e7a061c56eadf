/- law14's awake: what the document tells of records. -/
import Derived.Test.YtekkjhjaacjhnaaRecScan
import Derived.Test.YtekkjhjaacjhnaaRecRef4
import Derived.Lib.SlBytesConst
namespace Go.Proofs.Ytekkjhjaacjhnaa
open Go.RowKit
namespace Rcd
open Oct Frm

def gone258 : Rec := ⟨3, 0, 0, 0, 0, 258, 0, 0, 0, 0, 0, []⟩
def body1 : Rec := ⟨6, 0, 0, 0, 0, 0, 0, 0, 1, 0, 0, [104, 105]⟩
theorem aw_pay : payO gone258 = [0, 0, 1, 2] := by kernel_rfl
theorem aw_chk : chk gone258 = 0 := by kernel_rfl
theorem aw_readE : readE 3 [0, 0, 1, 2] = 0 := by kernel_rfl
theorem aw_readR : readR 3 [0, 0, 1, 2] = gone258 := by kernel_rfl
theorem aw_frm : frmL body1 = [80, 6, 0, 0, 0, 6, 120, 106, 28, 241, 0, 0, 0, 1, 104, 105] := by kernel_rfl
theorem aw_chk1 : chk body1 = 0 := by kernel_rfl
theorem aw_scan : (scanR [80, 6, 0, 0, 0, 6, 120, 106, 28, 241, 0, 0, 0, 1, 104, 105, 80]).1 = [⟨0, 16, 6, [0, 0, 0, 1, 104, 105]⟩] := by kernel_rfl
theorem aw_fnd : fndL [⟨0, 16, 6, [0, 0, 0, 1, 104, 105]⟩] = [⟨0, 16, body1⟩] := by kernel_rfl
theorem aw_len : lenL [⟨0, 16, 6, [0, 0, 0, 1, 104, 105]⟩] = 16 := by kernel_rfl
theorem fresh_ge {w : World} {o : Obj} {n c : Nat} {v' : Value} (h : Fresh (w.alloc o) (.slice (some ⟨w.heap.size, 0, none⟩) n c) v') : ∀ k, v'.ownBlock = some k → w.heap.size ≤ k := fun k hk => by
  rcases h k hk with h | h
  · have : w.heap.size = k := by simpa [Value.ownBlock] using h
    omega
  · rw [asz] at h
    omega
theorem map_one' {α : Type} {l : List (α × Value)} {f : α} (h : l.map (·.1) = [f]) : ∃ pv, l = [(f, pv)] := by
  cases l with
  | nil => simp at h
  | cons x l =>
    simp only [List.map_cons, List.cons.injEq, List.map_eq_nil_iff] at h
    obtain ⟨rfl, rfl⟩ := h
    exact ⟨x.2, rfl⟩

set_option maxRecDepth 100000 in
set_option maxHeartbeats 2000000 in
theorem awake14_any (w : World) : Calls Try.prog 36 #[] w fun e w' => e = .returned (.bool true) ∧ Keeps w w' := by
  have bt := bstr_toList
  have C1 := Lib.hid (payload_any gone258 (.slice none 0 0) w (row_nil w))
  rw [aw_pay, aw_chk] at C1
  go_enter Try.func36, Try.ntmps36
  go_wp2_with fail
  refine C1.out.mono ?_
  rintro e w1 ⟨v1, rfl, ho1, hk1⟩
  obtain ⟨p1, n1, c1, rfl⟩ := ho1.sl
  have HO1 := Lib.hid ho1.row
  have HK1 := Lib.hid hk1
  clear ho1 hk1 C1
  have C2 := Lib.hid (read_any 3 (.slice p1 n1 c1) [0, 0, 1, 2] w1 HO1.out (by decide))
  unfold ReadDid at C2
  rw [aw_readE, aw_readR] at C2
  go_wp2_with fail
  refine C2.out.mono ?_
  rintro e w2 ⟨v2, rfl, ho2, hk2⟩
  obtain ⟨p2, n2, c2, rfl⟩ := ho2.sl
  have HO2 := Lib.hid (HO1.out.keeps hk2)
  have HK2 := Lib.hid (HK1.out.trans hk2)
  clear ho2 hk2 C2 HO1
  unfold recA gone258
  have kc := fun (w : World) (C : Array Value) (n c : Nat) => Lib.run_convert_bytes_const (P := Try.prog) w 28 5 C n c Try.underlying28 Try.underlying5
  go_upto_region 3 with fail
  generalize hW : World.alloc w2 _ = w3
  have HB3 := Lib.hid (show Blk w3 w2.heap.size 30 (recA gone258 (.slice p2 n2 c2)) from by rw [← hW]; exact Blk.new _ _ _ rfl)
  have HK3 := Lib.hid (show Keeps w2 w3 from by rw [← hW]; exact (Keeps.refl _).alloc _)
  clear hW
  generalize w2.heap.size = b at *
  have HFR := Lib.hid (fun w h => frame_any body1 (.slice (some ⟨w3.heap.size, 0, none⟩) 2 2) w h)
  rw [aw_frm, aw_chk1] at HFR
  have HFM := Lib.hid (HFR.out (w3.alloc (.cells #[.int .u8 104, .int .u8 105] 5 (2, 3))) (row_mark (l := [104, 105].map u8v) rfl rfl rfl (by decide)))
  clear HFR
  unfold recA body1 at HFM
  go_wp2_with fail
  refine HFM.out.mono ?_
  rintro e w4 ⟨v4, rfl, ho4, hk4⟩
  obtain ⟨p4, n4, c4, rfl⟩ := ho4.sl
  have HK4 := Lib.hid (((Keeps.refl w3).alloc _).trans hk4)
  have HKA := Lib.hid ((HK2.out.trans HK3.out).trans HK4.out)
  have HO4 := Lib.hid ho4.row
  have hsz4 := HKA.out.size
  clear ho4 hk4 HFM
  go_wp2_with (at_builtin; first
    | refine wpList_app1 (base := w.heap.size) u8ok rfl _ _ rfl (.slice (some ⟨w4.heap.size, 0, none⟩) 0 0) (.slice p4 n4 c4) [] ([80, 6, 0, 0, 0, 6, 120, 106, 28, 241, 0, 0, 0, 1, 104, 105].map u8v) rfl rfl (Own.empty _ rfl (by omega)) (HO4.out.keeps ((Keeps.refl _).alloc _)) (oneCell_map_u8 _) (by decide) (by decide) (by rw [asz]; omega) ?_; intro v5 w5 ho5 hg5 hf5; obtain ⟨p5, n5, c5, rfl⟩ := ho5.sl; have HO5 := Lib.hid ho5; have HF5 : Hid (∀ k, (Value.slice p5 n5 c5).ownBlock = some k → w4.heap.size ≤ k) := Lib.hid (fresh_ge hf5); have HK5 := Lib.hid (show Keeps w4 w5 from ((Keeps.refl w4).alloc _).grown hg5 (fun k hk => by simp [Value.ownBlock] at hk; omega)); clear hg5 hf5 ho5
    | refine wpList_app1 (base := w.heap.size) u8ok rfl _ _ rfl (.slice p5 n5 c5) (.slice (some ⟨w5.heap.size, 0, none⟩) 1 1) ([] ++ [80, 6, 0, 0, 0, 6, 120, 106, 28, 241, 0, 0, 0, 1, 104, 105].map u8v) [.int .u8 80] rfl rfl (HO5.out.alloc _) (row_one rfl) (by simp [Value.oneCell']) (by decide) (by decide) (by rw [asz]; have := HK5.out.size; omega) ?_; intro v6 w6 ho6 hg6 hf6; obtain ⟨p6, n6, c6, rfl⟩ := ho6.sl; have HO6 := Lib.hid ho6.row; have HK6 := Lib.hid (show Keeps w w6 from ((HKA.out.trans HK5.out).alloc _).grown hg6 (fun k hk => HO5.out.base k hk)); have HK46 := Lib.hid (show Keeps w4 w6 from (HK5.out.alloc _).grown hg6 (fun k hk => HF5.out k hk)); clear hg6 hf6 ho6)
  have HSC := Lib.hid (rcScan_any (.slice p6 n6 c6) [80, 6, 0, 0, 0, 6, 120, 106, 28, 241, 0, 0, 0, 1, 104, 105, 80] w6 HO6.out (by decide))
  unfold RecScanDid at HSC
  rw [aw_scan, aw_fnd, aw_len] at HSC
  have HK56 := HK46
  refine HSC.out.mono ?_
  rintro e w7 ⟨v7, fl, rfl, hf7, hm7, hk7⟩
  obtain ⟨pv, rfl⟩ := map_one' hm7
  obtain ⟨g7, c7, rfl, -, -, -, hc7⟩ := ownsRow_at hf7.own (by simp)
  obtain ⟨pd, nd, cd, rfl⟩ := piece_sl (hf7.pay (⟨0, 16, body1⟩, pv) (List.mem_singleton_self _))
  have hcell := hc7 13 _ rfl
  have hstd := rstr_at (hf7.pay _ (List.mem_singleton_self _)).row
  have hK7 : Keeps w3 w7 := (HK4.out.trans HK56.out).trans hk7
  have hst1 := rstr_at (HO2.out.keeps (HK3.out.trans hK7))
  have hb5 : w7.cell? ⟨b, 5, none⟩ = some (.int .i64 258) := by rw [(HB3.out.keeps hK7).cell]; rfl
  have HKF := Lib.hid (HK6.out.trans hk7)
  clear hf7 hm7 hc7 hk7 hK7 HSC
  go_wp2_with fail
  go_ret
  exact ⟨rfl, HKF.out⟩
end Rcd
end Go.Proofs.Ytekkjhjaacjhnaa
