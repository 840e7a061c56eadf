/- The law UsersResolves: the users to whom any mailbox leads are the document's. -/
import Derived.Test.YtojmbeibhfjmkaaGreatK50
import Derived.Test.YtojmbeibhfjmkaaGreatK51
import Derived.Test.YtojmbeibhfjmkaaGreatK48
import Derived.Test.YtojmbeibhfjmkaaGreatK25
namespace Go.Proofs.YtojmbeibhfjmkaaGreat
open Go.RowKit
namespace Usr
open Adr (Str domainB)
open Mp Go.Maps
theorem addrM13 : Mids Tryz.prog 24 2 := ⟨⟨_, Tryz.underlying24, rfl⟩, by kernel_rfl⟩
set_option maxRecDepth 100000 in
set_option maxHeartbeats 8000000 in
theorem usersResolves_walk (W : World) (a0 : ByteArray) (v1 : Value) (a1 : List ActU) (a2 : Str × Str) (w0 : a0.size ≤ maxLen) (r1 : RowS W 5 v1 a1.length (a1.flatMap auC)) (w1 : ∀ y ∈ a1, AuOk W y) (w2 : a2.1.length ≤ maxLen ∧ a2.2.length ≤ maxLen) :
  Calls Tryz.prog 3 #[.string a0, v1, .agg #[.string (bstr a2.1), .string (bstr a2.2)]] W fun e w' => e = .returned (.bool true) ∧ Keeps W w' := by
 obtain ⟨dom, rfl⟩ : ∃ d : Str, a0 = bstr d := ⟨a0.data.toList, (bstr_list a0).symm⟩
 obtain ⟨x, y⟩ := a2
 have HR1 := Lib.hid r1
 have HO1 := Lib.hid w1
 have hs0 : (bstr dom).size = dom.length := bstr_size _
 have hs1 : (bstr x).size = x.length := bstr_size _
 have hs2 : (bstr y).size = y.length := bstr_size _
 rw [hs0] at w0
 obtain ⟨p0, cap0, rfl, -, -⟩ := r1.form
 have HML := Lib.hid (And.intro w0 w2)
 clear r1 w1 w0 w2
 simp only
 go_enter Tryz.func3, Tryz.ntmps3
 go_upto_region 1 with fail
 generalize hW : World.alloc W _ = wa
 have HKa := Lib.hid (show Keeps W wa from by rw [← hW]; exact (Keeps.refl _).alloc _)
 have HB := Lib.hid (show Blk wa W.heap.size 24 #[.string (bstr x), .string (bstr y)] from by rw [← hW]; exact Blk.new _ _ _ rfl)
 clear hW
 obtain ⟨q, hq⟩ : ∃ z, W.heap.size = z := ⟨_, rfl⟩
 have HQ := Lib.hid hq
 rw [hq] at HB ⊢
 clear hq
 go_wp2_with fail
 refine (awake13_any wa).mono ?_
 rintro e wb ⟨rfl, hk⟩
 have HK := Lib.hid (HKa.out.trans hk)
 have HB := Lib.hid (HB.out.keeps hk)
 clear hk HKa
 have CF := Lib.hid (few13_any _ a1 wb (HR1.out.keeps HK.out) (fun y hy => (HO1.out y hy).keeps HK.out))
 go_wp2_with fail
 refine CF.out.mono ?_
 rintro e wc ⟨b, rfl, hb, hk⟩
 have HK := Lib.hid (HK.out.trans hk)
 have HB := Lib.hid (HB.out.keeps hk)
 have HF := Lib.hid hb
 clear hk hb CF
 have c0 : wc.cell? ⟨q, 0, none⟩ = some (.string (bstr x)) := by rw [HB.out.cell]; rfl
 have c1 : wc.cell? ⟨q, 1, none⟩ = some (.string (bstr y)) := by rw [HB.out.cell]; rfl
 cases b with
 |false =>
  go_wp2_with fail
  go_ret
  exact ⟨rfl, HK.out⟩
 |true =>
 have HF := Lib.hid (HF.out rfl)
 by_cases hd : 100 < dom.length
 ·have hd' : decide ((100 : Int) < (dom.length : Int)) = true := decide_eq_true (by omega)
  go_wp2_with fail
  go_ret
  exact ⟨rfl, HK.out⟩
 have hd' : decide ((100 : Int) < (dom.length : Int)) = false := decide_eq_false (by omega)
 by_cases hx : 100 < x.length
 ·have hx' : decide ((100 : Int) < (x.length : Int)) = true := decide_eq_true (by omega)
  go_wp2_with fail
  go_ret
  exact ⟨rfl, HK.out⟩
 have hx' : decide ((100 : Int) < (x.length : Int)) = false := decide_eq_false (by omega)
 by_cases hy : 100 < y.length
 ·have hy' : decide ((100 : Int) < (y.length : Int)) = true := decide_eq_true (by omega)
  go_wp2_with fail
  go_ret
  exact ⟨rfl, HK.out⟩
 have hy' : decide ((100 : Int) < (y.length : Int)) = false := decide_eq_false (by omega)
 have HLE := Lib.hid (show dom.length ≤ 100 ∧ x.length ≤ 100 ∧ y.length ≤ 100 from by omega)
 clear hd hx hy
 have CM := Lib.hid (made_any wc dom HLE.out.1 _ a1 (HR1.out.keeps HK.out) (fun y hy => (HO1.out y hy).keeps HK.out) HF.out)
 go_upto_region 5 with fail
 clear c0 c1
 go_wp2_with fail
 refine CM.out.mono ?_
 rintro e wd (⟨-, g, b1, b2, c, pu, cu, pa, ca, L, rfl, hmd⟩ | ⟨-, ld, rfl, hk⟩)
 ·have HMD := Lib.hid hmd
  have HRT := Lib.hid (show Right (actsP (tabN dom) a1) from right_acts (right_new (lowL dom)) a1)
  have HA := Lib.hid (HK.out.trans hmd.kp)
  have HB := Lib.hid (HB.out.keeps hmd.kp)
  clear hmd CM
  generalize actsP (tabN dom) a1 = T at *
  unfold rtV
  go_upto_region 6 with fail
  generalize hW : World.alloc wd _ = we
  have HKe := Lib.hid (show Keeps wd we from by rw [← hW]; exact (Keeps.refl _).alloc _)
  have HC := Lib.hid (show Blk we wd.heap.size 31 #[.string (bstr T.dom), .int .i64 T.next, .slice pu T.us.length cu, .slice pa L.length ca] from by rw [← hW]; exact Blk.new _ _ _ rfl)
  clear hW
  obtain ⟨d, hd⟩ : ∃ z, wd.heap.size = z := ⟨_, rfl⟩
  rw [hd] at HC ⊢
  clear hd
  have HA := Lib.hid (HA.out.trans HKe.out)
  have HB := Lib.hid (HB.out.keeps HKe.out)
  have HT := Lib.hid (HMD.out.tab.keeps HKe.out)
  have HR := Lib.hid (HMD.out.rt.keeps HKe.out)
  clear HMD HKe
  have C1 := Lib.hid (resolve_any we g b1 b2 a1.length T HT.out HRT.out x y (by have := HLE.out; omega) (by have := HLE.out; omega))
  go_wp2_with (refine wpList_ld rfl addrM13 HB.out _ rfl rfl ?_)
  refine C1.out.mono ?_
  rintro e wf ⟨r1, rfl, ho1, hk⟩
  have HA := Lib.hid (HA.out.trans hk)
  have HB := Lib.hid (HB.out.keeps hk)
  have HC := Lib.hid (HC.out.keeps hk)
  have HO2 := Lib.hid ho1
  obtain ⟨p1, n1, k1, rfl⟩ := ho1.sl
  have C2 := Lib.hid (rResolve_any wf _ _ T L (HR.out.keeps hk) HRT.out x y (by have := HLE.out; omega) (by have := HLE.out; omega))
  clear hk ho1 C1
  unfold rtV at C2
  go_wp2_with (first | refine wpList_ld rfl rtM HC.out _ rfl rfl ?_ | refine wpList_ld rfl addrM13 HB.out _ rfl rfl ?_)
  refine C2.out.mono ?_
  rintro e wg ⟨r2, rfl, ho2, hk⟩
  have HA := Lib.hid (HA.out.trans hk)
  have HO3 := Lib.hid ho2
  have HO2 := Lib.hid (HO2.out.keeps hk)
  obtain ⟨p2, n2, k2, rfl⟩ := ho2.sl
  clear hk ho2 C2
  have C3 := Lib.hid (sameInts13_any wg HO2.out HO3.out)
  go_wp2_with fail
  refine C3.out.mono ?_
  rintro e wh ⟨rfl, hk⟩
  have HA := Lib.hid (HA.out.trans hk)
  go_wp2_with fail
  go_ret
  exact ⟨by simp, HA.out⟩
 ·have HA := Lib.hid (HK.out.trans hk)
  clear hk CM
  go_wp2_with fail
  go_ret
  exact ⟨rfl, HA.out.alloc _⟩
end Usr
end Go.Proofs.YtojmbeibhfjmkaaGreat
