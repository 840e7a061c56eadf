/- mbox.Take; ref20.Few. -/
import Derived.Test.YtohchhgheeolpaaMboxAdd
import Derived.Test.YtohchhgheeolpaaRecRef3
namespace Go.Proofs.Ytohchhgheeolpaa
open Go.RowKit
namespace Mbx
open Rcd Go.Maps

theorem chk_uid {r : Rec} (h : chk r = 0) (hk : r.kind = 2 ∨ r.kind = 3 ∨ r.kind = 4) : 1 ≤ r.uid ∧ r.uid ≤ 2147483648 := by
  obtain ⟨-, hok, -⟩ := chk_zero h
  have hm : pUid ∈ partsL r.kind := by rcases hk with k | k | k <;> (rw [k]; decide)
  have := hok _ hm
  simpa [okP, pUid, fld] using this
theorem chk_org {r : Rec} (h : chk r = 0) (hk : r.kind = 2) : 0 ≤ r.origin ∧ r.origin ≤ 9007199254740992 := by
  obtain ⟨-, hok, -⟩ := chk_zero h
  have := hok ⟨8, 0, 9007199254740992, 10⟩ (by rw [hk]; decide)
  simpa [okP, fld] using this
theorem i64wf {x : Int} (h : -9223372036854775808 ≤ x ∧ x ≤ 9223372036854775807) : (Lit.int .i64 x).wf = true := by
  simp [Lit.wf, IntKind.min, IntKind.max, IntKind.signed, IntKind.bits]; omega

set_option maxRecDepth 100000 in
set_option maxHeartbeats 2000000 in
theorem take_any (w : World) {g b1 b2 n : Nat} {m : Box} (h : BoxAt w g b1 b2 n m) (hn : n < 900000) (r : Rec) (v : Value) (hr : Row w v (r.data.map u8v)) : Calls Try.prog 48 #[.pointer (some ⟨g, 0, none⟩), .agg (recA r v)] w (BoxDid w g b1 b2 (n + 2) (take m r)) := by
  obtain ⟨pv, nv, cv, rfl⟩ : ∃ p n c, v = .slice p n c := let ⟨p, c, h, _⟩ := hr.form; ⟨p, _, c, h⟩
  have HB := Lib.hid h
  have HR := Lib.hid hr
  clear h hr
  have HC := Lib.hid (fun w h => check_any r (.slice pv nv cv) w h)
  have HAD := Lib.hid (fun w (h : BoxAt w g b1 b2 n m) hu ho => add_any w h hn r (.slice pv nv cv) ⟨_, _, _, rfl⟩ hu ho)
  unfold recA
  go_enter Try.func48, Try.ntmps48
  go_upto_region 1 with fail
  generalize hW : World.alloc w _ = w1
  have HK := Lib.hid (show Keeps w w1 from by rw [← hW]; exact (Keeps.refl _).alloc _)
  have HA := Lib.hid (show Blk w1 w.heap.size 82 (recA r (.slice pv nv cv)) from by rw [← hW]; exact Blk.new _ _ _ rfl)
  clear hW
  generalize w.heap.size = Q at *
  obtain ⟨a0, a1, a2, a3, a4, a5, a6, a7, a8, a9, a10, a11⟩ := rec12 HA.out
  go_wp2_with fail
  refine (HC.out w1 (HR.out.keeps HK.out)).mono ?_
  rintro e w2 ⟨rfl, hk2⟩
  have HK := Lib.hid (HK.out.trans hk2)
  have HA := Lib.hid (HA.out.keeps hk2)
  clear hk2 a0 a1 a2 a3 a4 a5 a6 a7 a8 a9 a10 a11
  have HBX := Lib.hid (HB.out.keeps HK.out)
  have HM := Lib.hid (Mods.of_keeps (S := BFr g b1 b2) HK.out)
  have HFin : Hid (∀ (q : Box × Bool) e w', take m r = q → BoxDid w2 g b1 b2 (n + 2) q e w' → BoxDid w g b1 b2 (n + 2) (take m r) e w') := Lib.hid (fun q e w' hq h => by
    rw [hq]
    exact ⟨h.1, h.2.1, HM.out.trans h.2.2 (fun y hy _ => hy)⟩)
  obtain ⟨a0, a1, a2, a3, a4, a5, a6, a7, a8, a9, a10, a11⟩ := rec12 HA.out
  by_cases hc : chk r = 0
  case neg =>
    have hc' : (chk r != 0) = true := by simp [hc]
    have HX : Hid (take m r = (m, false)) := Lib.hid (by unfold take; rw [if_pos hc])
    clear hc
    generalize chk r = c at *
    go_wp2_with fail
    go_ret
    exact HFin.out (m, false) _ _ HX.out ⟨rfl, HBX.out.mono (by omega), Mods.refl _ _⟩
  have HT0 : Hid (take m r = if r.kind = 2 then add m r else if r.kind = 3 then gone m r.uid else if r.kind = 4 then flag m r.uid r.flags else (m, false)) := Lib.hid (by unfold take; rw [if_neg (by rw [hc]; exact fun h => h rfl)])
  have HU := Lib.hid (chk_uid hc)
  have HO := Lib.hid (chk_org hc)
  rw [hc]
  clear hc
  by_cases k2 : r.kind = 2
  · have e2 : (r.kind == 2) = true := by simp [k2]
    have HX := Lib.hid (HT0.out.trans (if_pos k2))
    have HADx := Lib.hid (HAD.out w2 HBX.out (HU.out (.inl k2)) (i64wf (by have := HO.out k2; omega)))
    clear HT0 HU HO k2
    go_wp2_with fail
    refine HADx.out.mono ?_
    rintro e w3 ⟨rfl, hb, hm⟩
    have HF := Lib.hid (HFin.out (add m r) _ w3 HX.out ⟨rfl, hb, hm⟩)
    clear hb hm
    go_wp2_with fail
    go_ret
    exact HF.out
  have e2 : (r.kind == 2) = false := by simp [k2]
  by_cases k3 : r.kind = 3
  · have e3 : (r.kind == 3) = true := by simp [k3]
    have HX := Lib.hid (HT0.out.trans ((if_neg k2).trans (if_pos k3)))
    have HADx := Lib.hid (gone_any w2 HBX.out (by omega) r.uid (i64wf (by have := HU.out (.inr (.inl k3)); omega)))
    clear HT0 HU HO k2 k3
    go_wp2_with fail
    refine HADx.out.mono ?_
    rintro e w3 ⟨rfl, hb, hm⟩
    have HF := Lib.hid (HFin.out (gone m r.uid) _ w3 HX.out ⟨rfl, hb.mono (by omega), hm⟩)
    clear hb hm
    go_wp2_with fail
    go_ret
    exact HF.out
  have e3 : (r.kind == 3) = false := by simp [k3]
  by_cases k4 : r.kind = 4
  · have e4 : (r.kind == 4) = true := by simp [k4]
    have HX := Lib.hid (HT0.out.trans ((if_neg k2).trans ((if_neg k3).trans (if_pos k4))))
    have HADx := Lib.hid (flag_any w2 HBX.out (by omega) r.uid r.flags (i64wf (by have := HU.out (.inr (.inr k4)); omega)))
    clear HT0 HU HO k2 k3 k4
    go_wp2_with fail
    refine HADx.out.mono ?_
    rintro e w3 ⟨rfl, hb, hm⟩
    have HF := Lib.hid (HFin.out (flag m r.uid r.flags) _ w3 HX.out ⟨rfl, hb.mono (by omega), hm⟩)
    clear hb hm
    go_wp2_with fail
    go_ret
    exact HF.out
  have e4 : (r.kind == 4) = false := by simp [k4]
  have HX := Lib.hid (HT0.out.trans ((if_neg k2).trans ((if_neg k3).trans (if_neg k4))))
  clear HT0 HU HO k2 k3 k4
  go_wp2_with fail
  go_ret
  exact HFin.out (m, false) _ _ HX.out ⟨rfl, HBX.out.mono (by omega), Mods.refl _ _⟩
end Mbx
end Go.Proofs.Ytohchhgheeolpaa
