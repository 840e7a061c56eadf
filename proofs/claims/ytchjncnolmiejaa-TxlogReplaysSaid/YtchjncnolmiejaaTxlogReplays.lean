/- TxlogReplays: its walk. -/
import Derived.Test.YtchjncnolmiejaaK39
import Derived.Test.YtchjncnolmiejaaTxSame
import Derived.Test.YtchjncnolmiejaaTxRefRep
namespace Go.Proofs.Ytchjncnolmiejaa
open Go.RowKit
namespace Txl
open Oct Frm
theorem replayN_le : ∀ (k n : Nat) (fs : List Fr1), (replayN k n fs).1.length ≤ k
  | 0, _, _ => by simp [replayN]
  | k + 1, n, fs => by
    cases h : oneK n fs with
    | none => rw [replayN_none h]; exact Nat.zero_le _
    | some c =>
      rw [replayN_some h]
      have := replayN_le k (n + 1) (fs.drop (c + 2))
      simp only [List.length_cons]
      omega
set_option maxRecDepth 100000 in
set_option maxHeartbeats 4000000 in
theorem txlogReplays_walk (W : World) (v : Value) (l : List UInt8) (r0 : Row W v (l.map u8v)) : Calls Try.prog 8 #[v] W fun e w' => e = .returned (.bool true) ∧ Keeps W w' := by
  obtain ⟨p, c, rfl, hc1, hc2⟩ := r0.formB
  have HR := Lib.hid r0
  have HAW := Lib.hid (awake17_any W)
  clear r0
  go_enter Try.func8, Try.ntmps8
  go_wp2_with fail
  refine HAW.out.mono ?_
  rintro e w1 ⟨rfl, hk1⟩
  have HK1 := Lib.hid hk1
  clear hk1 HAW
  by_cases hbig : 2000 < l.length
  · go_wp2_with fail
    go_ret
    exact ⟨rfl, HK1.out⟩
  have HA := Lib.hid (replay_any (.slice p l.length c) l w1 (HR.out.keeps HK1.out) (by omega))
  have HBB := Lib.hid (fun (w2 : World) (hk : Keeps W w2) => rreplay_any (.slice p l.length c) l w2 (HR.out.keeps hk) (by omega))
  have HLN := Lib.hid (show (replayF (rowR l).1).1.length ≤ l.length from Nat.le_trans (replayN_le _ _ _) (rowR_all l).2.2)
  generalize replayF (rowR l).1 = rp at *
  obtain ⟨rl, uu⟩ := rp
  unfold ReplayDid at HA
  unfold RRepDid at HBB
  simp only at HA HBB HLN
  go_wp2_with fail
  refine HA.out.mono ?_
  rintro e w2 ⟨v2, X2, rfl, ht2, hx2, hk2⟩
  obtain ⟨p2, c2, rfl, -, -⟩ := ht2.r.form
  have HK2 := Lib.hid (HK1.out.trans hk2)
  have HT2 := Lib.hid ht2
  have HX2 := Lib.hid hx2
  have HB := Lib.hid (HBB.out w2 HK2.out)
  clear HA HBB hk2 ht2 hx2
  go_wp2_with fail
  refine HB.out.mono ?_
  rintro e w3 ⟨v3, X3, rfl, ht3, hx3, hk3⟩
  obtain ⟨p3, c3, rfl, -, -⟩ := ht3.r.form
  have HK3 := Lib.hid (HK2.out.trans hk3)
  have HT3 := Lib.hid ht3
  have HT23 := Lib.hid (HT2.out.keeps hk3)
  have HX3 := Lib.hid hx3
  clear HB hk3 ht3 hx3
  go_upto_region 7 with fail
  generalize hW : World.alloc w3 _ = w4
  have HK34 := Lib.hid (show Keeps w3 w4 from by rw [← hW]; exact (Keeps.refl _).alloc _)
  have HQ := Lib.hid (show Blk w4 w3.heap.size 70 #[.slice p3 X3.length c3, .int .i64 uu] from by rw [← hW]; exact Blk.new _ _ _ rfl)
  clear hW
  obtain ⟨q, hq⟩ : ∃ q, q = w3.heap.size := ⟨_, rfl⟩
  rw [← hq] at HQ ⊢
  clear hq
  have HS := Lib.hid (same17_any (.slice p2 X2.length c2) (.slice p3 X3.length c3) X2 X3 w4 (HT23.out.r.keeps HK34.out) (HT3.out.r.keeps HK34.out) (HX2.out.trans HX3.out.symm) (by have := HLN.out; rw [← HX2.out, List.length_map] at this; omega))
  have q0 : w4.cell? ⟨q, 0, none⟩ = some (.slice p3 X3.length c3) := by rw [HQ.out.cell]; rfl
  go_wp2_with fail
  refine HS.out.mono ?_
  rintro e w5 ⟨rfl, hk5⟩
  have HK5 := Lib.hid ((HK3.out.trans HK34.out).trans hk5)
  have HQ5 := Lib.hid (HQ.out.keeps hk5)
  clear HS hk5 q0
  have q1 : w5.cell? ⟨q, 1, none⟩ = some (.int .i64 uu) := by rw [HQ5.out.cell]; rfl
  go_wp2_with fail
  go_ret
  exact ⟨rfl, HK5.out⟩
end Txl
end Go.Proofs.Ytchjncnolmiejaa
