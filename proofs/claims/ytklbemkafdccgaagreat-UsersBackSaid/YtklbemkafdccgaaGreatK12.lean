/- Several texts in one: UsAdd, UsSet, UsDrop, UsSeen. -/
import Derived.Test.YtklbemkafdccgaaGreatUsActs
import Derived.StillTailTactics
import Derived.Deep.LoopGhost
/- users: AddUser. -/
namespace Go.Proofs.YtklbemkafdccgaaGreat
open Go.RowKit
namespace Usr
open Adr (Str)
open Mp Go.Maps
theorem limB_eq (b c : Int) : Quota.goodB b c = limB b c := by
 unfold Quota.goodB limB
 have h : ∀ a, Quota.boundB a = boundB a := by
  intro a
  unfold Quota.boundB boundB Quota.sumB
  rw [Bool.eq_iff_iff]
  simp
 rw [h, h]
theorem addU_form {t : TabP} {name : Str} {b c : Int} : nameB name = false → addU t name b c = (t, 0, 3) := fun h => by unfold addU; rw [if_pos h]
theorem addU_lim {t : TabP} {name : Str} {b c : Int} (h1 : nameB name = true) (h2 : limB b c = false) : addU t name b c = (t, 0, 1) := by unfold addU; rw [if_neg (by simp [h1]), if_pos h2]
theorem addU_there {t : TabP} {name : Str} {b c : Int} (h1 : nameB name = true) (h2 : limB b c = true) (h3 : (decide (name ∈ namesU t) || decide (name ∈ namesA t)) = true) : addU t name b c = (t, 0, 8) := by
 unfold addU
 rw [if_neg (by simp [h1]), if_neg (by simp [h2]), if_pos (by simpa using h3)]
theorem addU_full {t : TabP} {name : Str} {b c : Int} (h1 : nameB name = true) (h2 : limB b c = true) (h3 : (decide (name ∈ namesU t) || decide (name ∈ namesA t)) = false) (h4 : t.us.length = 16 ∨ 999 < t.next) : addU t name b c = (t, 0, 6) := by
 unfold addU
 rw [if_neg (by simp [h1]), if_neg (by simp [h2]), if_neg (by simpa using h3), if_pos h4]
theorem acted_same {w w' : World} {g b1 b2 n : Nat} {t : TabP} {e : Int} (h : TabAt w g b1 b2 n t) (k : Keeps w w') : Acted w g b1 b2 n (t, 0, e) (.returned (.tuple #[.int .i64 0, .int .i64 e])) w' :=
 ⟨rfl, (h.keeps k).mono (Nat.le_succ n), Mods.of_keeps k⟩
set_option maxRecDepth 100000 in
set_option maxHeartbeats 2000000 in
theorem addUser_any (w : World) (g b1 b2 n : Nat) (t : TabP) (h : TabAt w g b1 b2 n t) (hnx : 1 ≤ t.next ∧ t.next ≤ 1000000) (hn : n < 1000000) (name : Str) (hl : name.length ≤ 1000000) (b c : Int) : Calls Tryz.prog 33 #[.pointer (some ⟨g, 0, none⟩), .string (bstr name), .agg #[.int .i64 b, .int .i64 c]] w (Acted w g b1 b2 n (addU t name b c)) := by
 have HT := Lib.hid h
 have hlm : name.length ≤ maxLen := by unfold maxLen; omega
 have HK := Lib.hid (show Keeps w (w.alloc (.cells #[.int .i64 b, .int .i64 c] 36)) from (Keeps.refl _).alloc _)
 have HB := Lib.hid (Blk.new w 36 #[.int .i64 b, .int .i64 c] rfl)
 have HF := Lib.hid (@addU_form t name b c)
 have HLM := Lib.hid (@addU_lim t name b c)
 have HTH := Lib.hid (@addU_there t name b c)
 have HFU := Lib.hid (@addU_full t name b c)
 have HOK := Lib.hid (@addU_ok t name b c)
 have CN := Lib.hid (fun w => isName_any name (by omega) w)
 have CG := Lib.hid (fun w => Quota.good_any b c w)
 rw [limB_eq] at CG
 generalize addU t name b c = r at *
 generalize nameB name = nb at *
 generalize limB b c = lb at *
 clear h
 go_enter Tryz.func33, Tryz.ntmps33
 go_wp2_with fail
 refine (CN.out _).mono ?_
 rintro e w2 ⟨rfl, hk⟩
 have HK := Lib.hid (HK.out.trans hk)
 have HB := Lib.hid (HB.out.keeps hk)
 obtain ⟨q, hq⟩ : ∃ z, w.heap.size = z := ⟨_, rfl⟩
 rw [hq] at HB ⊢
 clear hk hq CN
 cases nb with
 |false =>
  have HR := Lib.hid (HF.out (by simp))
  go_wp2_with fail
  exact bodyPost_ret (v := .tuple #[.int .i64 0, .int .i64 3]) (by simp [results, Tryz.results33, go_sem]) rfl (by rw [HR.out]; exact acted_same HT.out HK.out)
 |true =>
 have l0 : w2.cell? ⟨q, 0, none⟩ = some (.int .i64 b) := by rw [HB.out.cell]; rfl
 have l1 : w2.cell? ⟨q, 1, none⟩ = some (.int .i64 c) := by rw [HB.out.cell]; rfl
 go_wp2_with fail
 refine (CG.out _).mono ?_
 rintro e w3 ⟨rfl, hk⟩
 have HK := Lib.hid (HK.out.trans hk)
 have HB := Lib.hid (HB.out.keeps hk)
 clear hk CG l0 l1
 cases lb with
 |false =>
  have HR := Lib.hid (HLM.out (by simp) (by simp))
  go_wp2_with fail
  exact bodyPost_ret (v := .tuple #[.int .i64 0, .int .i64 1]) (by simp [results, Tryz.results33, go_sem]) rfl (by rw [HR.out]; exact acted_same HT.out HK.out)
 |true =>
 go_wp2_with fail
 refine (has_any _ g b1 b2 n t (HT.out.keeps HK.out) name hlm).mono ?_
 rintro e w4 ⟨rfl, hk⟩
 have HK := Lib.hid (HK.out.trans hk)
 have HB := Lib.hid (HB.out.keeps hk)
 obtain ⟨hb, hhb⟩ : ∃ z, (decide (name ∈ namesU t) || decide (name ∈ namesA t)) = z := ⟨_, rfl⟩
 have HHB := Lib.hid hhb
 rw [hhb]
 clear hk hhb
 cases hb with
 |true =>
  have HR := Lib.hid (HTH.out (by simp) (by simp) HHB.out)
  go_wp2_with fail
  exact bodyPost_ret (v := .tuple #[.int .i64 0, .int .i64 8]) (by simp [results, Tryz.results33, go_sem]) rfl (by rw [HR.out]; exact acted_same HT.out HK.out)
 |false =>
 have HT4 := Lib.hid (HT.out.keeps HK.out)
 have hln := HT4.out.lenU
 obtain ⟨-, c1, c2, -⟩ := HT4.out.cells
 obtain ⟨nx, hnx'⟩ : ∃ z, t.next = z := ⟨_, rfl⟩
 obtain ⟨m, hm⟩ : ∃ z, t.us.length = z := ⟨_, rfl⟩
 rw [hm] at hln
 rw [hnx'] at c1 hnx
 have HNX := Lib.hid (And.intro hnx' hm)
 clear hnx' hm
 by_cases h16 : m = 16
 ·have HR := Lib.hid (HFU.out (by simp) (by simp) HHB.out (.inl (by rw [HNX.out.2]; exact h16)))
  have e1 : ((m : Int) == 16) = true := by simp [h16]
  clear h16
  go_wp2_with fail
  exact bodyPost_ret (v := .tuple #[.int .i64 0, .int .i64 6]) (by simp [results, Tryz.results33, go_sem]) rfl (by rw [HR.out]; exact acted_same HT.out HK.out)
 have e1 : ((m : Int) == 16) = false := by simp; omega
 have H16 := Lib.hid h16
 clear h16
 by_cases h999 : 999 < nx
 ·have HR := Lib.hid (HFU.out (by simp) (by simp) HHB.out (.inr (by rw [HNX.out.1]; exact h999)))
  have e2 : decide ((999 : Int) < nx) = true := decide_eq_true h999
  go_wp2_with fail
  exact bodyPost_ret (v := .tuple #[.int .i64 0, .int .i64 6]) (by simp [results, Tryz.results33, go_sem]) rfl (by rw [HR.out]; exact acted_same HT.out HK.out)
 have e2 : decide ((999 : Int) < nx) = false := decide_eq_false h999
 have hnn : name ∉ namesU t ∧ name ∉ namesA t := by
  have := HHB.out
  simpa using this
 have HR := Lib.hid (HOK.out (by simp) (by simp) hnn.1 hnn.2 (by rw [HNX.out.2]; exact H16.out) (by rw [HNX.out.1]; omega))
 have HNN := Lib.hid hnn.1
 clear hnn HF HLM HTH HFU HOK HHB
 go_upto_region 9 with fail
 clear e1 e2 hln c2
 have l0 : w4.cell? ⟨q, 0, none⟩ = some (.int .i64 b) := by rw [HB.out.cell]; rfl
 have l1 : w4.cell? ⟨q, 1, none⟩ = some (.int .i64 c) := by rw [HB.out.cell]; rfl
 obtain ⟨w4, rfl⟩ : ∃ z : World, z = w4 := ⟨_, rfl⟩
 go_cut [8] (fun pq wx => ∃ u : Nat, pq = .pointer (some ⟨u, 0, none⟩) ∧ Hid (w4.heap.size ≤ u ∧ Keeps w4 wx ∧ Blk wx u 42 #[.int .i64 nx, .string (bstr name), .int .i64 b, .int .i64 c]))
 case first =>
  refine wp_region_noPanic ?_
  refine wp_region_held_drew (S := fun w' => Keeps w4 w') (by kernel_rfl) ((Keeps.refl w4).drew) (fun _ => ?_)
  have hHeld : Keeps w4 (w4).drew := (Keeps.refl w4).drew
  generalize World.drew w4 = xs at *
  refine tq 0 35 ?_
  refine tq 1 36 ?_
  refine tq 2 37 ?_
  refine tq 3 38 ?_ (hy := fun w' hSw => by
   have hSw : Keeps w4 w' := hSw
   have h0 := keep1 hSw c1
   clear hSw
   go_simp
   try with_reducible rfl)
  refine tq 4 39 ?_
  refine tq 5 40 ?_ (hy := fun w' hSw => by
   have hSw : Keeps w4 w' := hSw
   have h0 := keep1 hSw l0
   have h1 := keep1 hSw l1
   clear hSw
   go_simp
   try with_reducible rfl)
  refine tq 6 41 ?_
  refine rd1 7 (fun K hK => ?_)
  go_simp
  obtain ⟨u, hu0⟩ : ∃ u, u = (World.heap xs).size := ⟨_, rfl⟩
  have hus : w4.heap.size ≤ u := by rw [hu0]; exact hHeld.size
  rw [← hu0]
  have HBb := Lib.hid (show Blk (World.alloc xs (.cells #[.int .i64 0, .string ⟨#[]⟩, .int .i64 0, .int .i64 0] 42)) u 42 #[.int .i64 0, .string ⟨#[]⟩, .int .i64 0, .int .i64 0] from Blk.new _ _ _ hu0)
  have hb := hHeld.alloc (.cells #[.int .i64 0, .string ⟨#[]⟩, .int .i64 0, .int .i64 0] 42)
  clear hu0
  generalize World.alloc xs (.cells #[.int .i64 0, .string ⟨#[]⟩, .int .i64 0, .int .i64 0] 42) = yB at *
  refine bkm hK hb ?_
  clear hK K hHeld
  have hHeld : Keeps w4 yB := hb
  clear hb
  refine rd1 8 (fun K hK => ?_)
  refine step_st (ds := #[.int .i64 nx, .string (bstr name), .int .i64 b, .int .i64 c]) rfl usrM HBb.out rfl (by simp [Value.oneCell']) _ _ rfl rfl rfl rfl ?_
  intro yF hBF hMF
  have hb := hMF.keeps hHeld (fun x hx => by omega)
  have HBc := Lib.hid hBF
  clear hBF hMF
  refine bkm hK hb ?_
  clear hK K hHeld
  have hHeld : Keeps w4 yF := hb
  clear hb
  refine wpAnyH_done (by kernel_rfl) ?_ _
  refine NoPanic.normal ?_
  go_wp2_with fail
  go_meet
  exact ⟨u, rfl, Lib.hid ⟨hus, hHeld, HBc.out⟩⟩
 case rest =>
 obtain ⟨u, rfl, HU⟩ := hcut
 obtain ⟨w5, rfl⟩ : ∃ z : World, z = wc := ⟨_, rfl⟩
 have HT5 := Lib.hid ((HT4.out.keeps HU.out.2.1).keeps (Keeps.refl w5).drew)
 have hbd := HT4.out.lt
 have hub : u ≠ b1 ∧ u ≠ g := ⟨fun e => by have := HU.out.1; omega, fun e => by have := HU.out.1; omega⟩
 obtain ⟨w6, hup, ht6, hm6⟩ := HT5.out.putU hn (u := ⟨nx, name, b, c⟩) hlm HNN.out
 unfold usrV usrA at hup
 simp only at hup
 have HT6 := Lib.hid ht6
 have HM6 := Lib.hid hm6
 have HU6 := Lib.hid ((HU.out.2.2.drew).mods hm6 (fun e => hub.1 e))
 clear ht6 hm6 c1 l0 l1
 obtain ⟨-, -, c2, -⟩ := (HT4.out.keeps HU.out.2.1).cells
 have u0 : w5.cell? ⟨u, 0, none⟩ = some (.int .i64 nx) := by rw [HU.out.2.2.cell]; rfl
 have u1 : w5.cell? ⟨u, 1, none⟩ = some (.string (bstr name)) := by rw [HU.out.2.2.cell]; rfl
 have u2 : w5.cell? ⟨u, 2, none⟩ = some (.int .i64 b) := by rw [HU.out.2.2.cell]; rfl
 have u3 : w5.cell? ⟨u, 3, none⟩ = some (.int .i64 c) := by rw [HU.out.2.2.cell]; rfl
 go_upto_region 10 with fail
 go_still_tail 6, (by kernel_rfl)
 change wpList _ _ _ _ _ (World.drew _)
 go_upto_region 11 with fail
 clear hup u0 u1 u2 u3 c2
 have c1 : w6.cell? ⟨g, 1, none⟩ = some (.int .i64 nx) := by rw [HT6.out.cells.2.1, ← HNX.out.1]
 have f1 : w6.frozen? ⟨g, 1, none⟩ = false := HT6.out.blk.frozen _
 have hw : IntKind.i64.wrap (nx + 1) = nx + 1 := IntWalk.i64_in _ (by omega)
 have HT7 := Lib.hid (HT6.out.setNext (nx + 1))
 have HU7 := Lib.hid (HU6.out.far (p := ⟨g, 1, none⟩) hub.2 (.int .i64 (nx + 1)))
 go_upto_region 12 with fail
 generalize w6.setCell ⟨g, 1, none⟩ (.int .i64 (nx + 1)) = w7 at *
 clear c1 f1
 have u0 : w7.cell? ⟨u, 0, none⟩ = some (.int .i64 nx) := by rw [HU7.out.cell]; rfl
 go_wp2_with fail
 refine bodyPost_ret (v := .tuple #[.int .i64 nx, .int .i64 0]) (by simp [results, Tryz.results33, go_sem]) rfl ?_
 rw [HR.out]
 refine ⟨by rw [HNX.out.1], by rw [HNX.out.1]; exact HT7.out.1, ?_⟩
 have h1 : Mods (TFr g b1 b2) w w5.drew := Mods.of_keeps ((HK.out.trans HU.out.2.1).drew)
 have h2 : Mods (TFr g b1 b2) w w6 := h1.trans HM6.out (fun x hx _ => .inr (.inl hx))
 exact h2.trans HT7.out.2 (fun x hx _ => .inl hx)
end Usr
end Go.Proofs.YtklbemkafdccgaaGreat

/- users: SetLimit, DropUser, DropAlias. -/
namespace Go.Proofs.YtklbemkafdccgaaGreat
open Go.RowKit
namespace Usr
open Adr (Str)
open Mp Go.Maps
theorem setL_none {t : TabP} {name : Str} {b c : Int} (h : decide (name ∈ namesU t) = false) : setL t name b c = (t, 0, 7) := by unfold setL; rw [if_pos (of_decide_eq_false h)]
theorem setL_lim {t : TabP} {name : Str} {b c : Int} (h : decide (name ∈ namesU t) = true) (h2 : limB b c = false) : setL t name b c = (t, 0, 1) := by unfold setL; rw [if_neg (by simpa using of_decide_eq_true h), if_pos h2]
theorem setL_ok {t : TabP} {name : Str} {b c : Int} (h : decide (name ∈ namesU t) = true) (h2 : limB b c = true) : setL t name b c = ({ t with us := t.us.map fun u => if u.name = name then { u with lb := b, lc := c } else u }, 0, 0) := by unfold setL; rw [if_neg (by simpa using of_decide_eq_true h), if_neg (by simp [h2])]
theorem actedE_same {w w' : World} {g b1 b2 n : Nat} {t : TabP} {e : Int} (h : TabAt w g b1 b2 n t) (k : Keeps w w') : ActedE w g b1 b2 n (t, 0, e) (.returned (.int .i64 e)) w' :=
 ⟨rfl, (h.keeps k).mono (Nat.le_succ n), Mods.of_keeps k⟩
theorem findU_mem {t : TabP} {name : Str} (h : decide (name ∈ namesU t) = true) : ∃ u, findU t name = some u ∧ u ∈ t.us ∧ u.name = name := by
 cases hf : findU t name with
 |none => rw [← findU_some, hf] at h; cases h
 |some u => exact ⟨u, rfl, List.mem_of_find?_eq_some hf, by simpa using List.find?_some hf⟩
set_option maxRecDepth 100000 in
set_option maxHeartbeats 2000000 in
theorem setLimit_any (w : World) (g b1 b2 n : Nat) (t : TabP) (h : TabAt w g b1 b2 n t) (hnd : (namesU t).Nodup) (hn : n < 1000000) (name : Str) (hl : name.length ≤ 1000000) (b c : Int) : Calls Tryz.prog 40 #[.pointer (some ⟨g, 0, none⟩), .string (bstr name), .agg #[.int .i64 b, .int .i64 c]] w (ActedE w g b1 b2 n (setL t name b c)) := by
 have HT := Lib.hid h
 have HND := Lib.hid hnd
 have hlm : name.length ≤ maxLen := by unfold maxLen; omega
 have HK := Lib.hid (show Keeps w (w.alloc (.cells #[.int .i64 b, .int .i64 c] 36)) from (Keeps.refl _).alloc _)
 have HB := Lib.hid (Blk.new w 36 #[.int .i64 b, .int .i64 c] rfl)
 have HT1 := Lib.hid (h.keeps HK.out)
 have HN := Lib.hid (@setL_none t name b c)
 have HLM := Lib.hid (@setL_lim t name b c)
 have HOK := Lib.hid (@setL_ok t name b c)
 have CG := Lib.hid (fun w => Quota.good_any b c w)
 have HFM := Lib.hid (@findU_mem t name)
 rw [limB_eq] at CG
 obtain ⟨un, us, ub, uc, hlk, hlu⟩ := look_forms HT1.out hlm
 have HLU := Lib.hid hlu
 obtain ⟨iu, hiu⟩ : ∃ z, decide (name ∈ namesU t) = z := ⟨_, rfl⟩
 rw [hiu] at hlk HN HLM HOK HFM
 generalize setL t name b c = r at *
 generalize limB b c = lb at *
 clear h hlu hiu hnd
 go_enter Tryz.func40, Tryz.ntmps40
 go_upto_region 1 with fail
 generalize w.alloc (.cells #[.int .i64 b, .int .i64 c] 36) = w1 at *
 obtain ⟨q, hq⟩ : ∃ z, w.heap.size = z := ⟨_, rfl⟩
 rw [hq] at HB ⊢
 have HQW := Lib.hid (show w.heap.size ≤ q by omega)
 clear hq
 obtain ⟨-, -, c2, -⟩ := HT1.out.cells
 go_upto_region 2 with fail
 generalize hW : World.alloc w1 _ = w2
 obtain ⟨v, hv⟩ : ∃ v, v = w1.heap.size := ⟨_, rfl⟩
 have HV := Lib.hid (show Blk w2 v 42 #[.int .i64 un, .string us, .int .i64 ub, .int .i64 uc] from by rw [← hW]; exact Blk.new _ _ _ hv)
 have HVW := Lib.hid (show w.heap.size ≤ v from by rw [hv]; exact HK.out.size)
 have HQV := Lib.hid (show q ≠ v from by rw [hv]; exact Nat.ne_of_lt HB.out.lt)
 have hk : Keeps w1 w2 := by rw [← hW]; exact (Keeps.refl _).alloc _
 have HB2 := Lib.hid (HB.out.keeps hk)
 have HK2 := Lib.hid (HK.out.trans hk)
 rw [← hv]
 clear hW hk hv HB HK hlk c2 HT1
 cases iu with
 |false =>
  have HR := Lib.hid (HN.out (by simp))
  go_wp2_with fail
  go_ret
  rw [HR.out]
  exact actedE_same HT.out HK2.out
 |true =>
 have l0 : w2.cell? ⟨q, 0, none⟩ = some (.int .i64 b) := by rw [HB2.out.cell]; rfl
 have l1 : w2.cell? ⟨q, 1, none⟩ = some (.int .i64 c) := by rw [HB2.out.cell]; rfl
 go_wp2_with fail
 refine (CG.out _).mono ?_
 rintro e w3 ⟨rfl, hk⟩
 have HB3 := Lib.hid (HB2.out.keeps hk)
 have HV3 := Lib.hid (HV.out.keeps hk)
 have HK3 := Lib.hid (HK2.out.trans hk)
 clear hk HB2 HV HK2 CG l0 l1
 cases lb with
 |false =>
  have HR := Lib.hid (HLM.out (by simp) (by simp))
  go_wp2_with fail
  go_ret
  rw [HR.out]
  exact actedE_same HT.out HK3.out
 |true =>
 have HR := Lib.hid (HOK.out (by simp) (by simp))
 obtain ⟨u, hu1, hu2, hu3⟩ := HFM.out (by simp)
 obtain ⟨e1, e2, e3, e4⟩ := HLU.out u hu1
 subst e1; subst e2; subst e3; subst e4
 subst hu3
 have HU := Lib.hid hu2
 clear hu1 hu2 HN HLM HOK HFM HLU
 have l0 : w3.cell? ⟨q, 0, none⟩ = some (.int .i64 b) := by rw [HB3.out.cell]; rfl
 have l1 : w3.cell? ⟨q, 1, none⟩ = some (.int .i64 c) := by rw [HB3.out.cell]; rfl
 have v2 : w3.cell? ⟨v, 2, none⟩ = some (.int .i64 u.lb) := by rw [HV3.out.cell]; rfl
 have v3 : w3.cell? ⟨v, 3, none⟩ = some (.int .i64 u.lc) := by rw [HV3.out.cell]; rfl
 have f2 : w3.frozen? ⟨v, 2, none⟩ = false := HV3.out.frozen _
 have f3 : w3.frozen? ⟨v, 3, none⟩ = false := HV3.out.frozen _
 have HV4 := Lib.hid ((HV3.out.set_ 2 (.int .i64 b)).set_ 3 (.int .i64 c))
 have HM4 := Lib.hid (((Mods.refl (· = v) w3).setCell (p := ⟨v, 2, none⟩) (fun _ => rfl) (.int .i64 b)).setCell (p := ⟨v, 3, none⟩) (fun _ => rfl) (.int .i64 c))
 have HK4 := Lib.hid (HM4.out.keeps HK3.out (fun x hx => by rw [hx]; exact HVW.out))
 go_upto_region 7 with fail
 generalize ((w3.setCell ⟨v, 2, none⟩ (.int .i64 b)).setCell ⟨v, 3, none⟩ (.int .i64 c)) = w4 at *
 clear l0 l1 v2 v3 f2 f3 HM4
 have HT5 := Lib.hid ((HT.out.keeps HK4.out).keeps (Keeps.refl w4).drew)
 obtain ⟨w6, hup, ht6, hm6⟩ := HT5.out.putL hn hlm b c HU.out HND.out
 unfold usrV usrA at hup
 simp only at hup
 have HT6 := Lib.hid ht6
 have HM6 := Lib.hid hm6
 clear ht6 hm6
 obtain ⟨-, -, c2, -⟩ := (HT.out.keeps HK4.out).cells
 have u0 : w4.cell? ⟨v, 0, none⟩ = some (.int .i64 u.n) := by rw [HV4.out.cell]; rfl
 have u1 : w4.cell? ⟨v, 1, none⟩ = some (.string (bstr u.name)) := by rw [HV4.out.cell]; rfl
 have u2 : w4.cell? ⟨v, 2, none⟩ = some (.int .i64 b) := by rw [HV4.out.cell]; rfl
 have u3 : w4.cell? ⟨v, 3, none⟩ = some (.int .i64 c) := by rw [HV4.out.cell]; rfl
 go_upto_region 7 with fail
 go_still_tail 6, (by kernel_rfl)
 change wpList _ _ _ _ _ (World.drew _)
 go_wp2_with fail
 go_ret
 rw [HR.out]
 refine ⟨rfl, HT6.out, ?_⟩
 have h1 : Mods (TFr g b1 b2) w w4.drew := Mods.of_keeps HK4.out.drew
 exact h1.trans HM6.out (fun x hx _ => .inr (.inl hx))
end Usr
end Go.Proofs.YtklbemkafdccgaaGreat

/- users: DropUser, DropAlias. -/
namespace Go.Proofs.YtklbemkafdccgaaGreat
open Go.RowKit
namespace Usr
open Adr (Str)
open Mp Go.Maps
theorem dropU_none {t : TabP} {name : Str} (h : decide (name ∈ namesU t) = false) : dropU t name = (t, 0, 7) := by
 unfold dropU
 rw [← findU_some] at h
 unfold findU at h
 cases hf : t.us.find? (fun u => decide (u.name = name)) with
 |none => rfl
 |some u => rw [hf] at h; cases h
theorem dropU_ok {t : TabP} {name : Str} {u : UsrP} (h : findU t name = some u) : dropU t name = ({ t with us := t.us.filter fun u => decide (u.name ≠ name) }, u.n, 0) := by
 unfold dropU
 unfold findU at h
 rw [h]
theorem dropA_none {t : TabP} {name : Str} (h : decide (name ∈ namesA t) = false) : dropA t name = (t, 0, 7) := by unfold dropA; rw [if_pos (of_decide_eq_false h)]
theorem dropA_ok {t : TabP} {name : Str} (h : decide (name ∈ namesA t) = true) : dropA t name = ({ t with al := t.al.filter fun a => decide (a.name ≠ name) }, 0, 0) := by unfold dropA; rw [if_neg (by simpa using of_decide_eq_true h)]
set_option maxRecDepth 100000 in
set_option maxHeartbeats 2000000 in
theorem dropUser_any (w : World) (g b1 b2 n : Nat) (t : TabP) (h : TabAt w g b1 b2 n t) (name : Str) (hl : name.length ≤ 1000000) : Calls Tryz.prog 42 #[.pointer (some ⟨g, 0, none⟩), .string (bstr name)] w (Acted w g b1 b2 n (dropU t name)) := by
 have HT := Lib.hid h
 have hlm : name.length ≤ maxLen := by unfold maxLen; omega
 have HN := Lib.hid (@dropU_none t name)
 have HOK := Lib.hid (fun u => @dropU_ok t name u)
 have HFM := Lib.hid (@findU_mem t name)
 obtain ⟨un, us, ub, uc, hlk, hlu⟩ := look_forms h hlm
 have HLU := Lib.hid hlu
 obtain ⟨iu, hiu⟩ : ∃ z, decide (name ∈ namesU t) = z := ⟨_, rfl⟩
 rw [hiu] at hlk HN HFM
 generalize dropU t name = r at *
 obtain ⟨-, -, c2, -⟩ := h.cells
 clear h hlu hiu
 go_enter Tryz.func42, Tryz.ntmps42
 go_upto_region 2 with fail
 generalize hW : World.alloc w _ = w2
 obtain ⟨v, hv⟩ : ∃ v, v = w.heap.size := ⟨_, rfl⟩
 have HV := Lib.hid (show Blk w2 v 42 #[.int .i64 un, .string us, .int .i64 ub, .int .i64 uc] from by rw [← hW]; exact Blk.new _ _ _ hv)
 have HK2 := Lib.hid (show Keeps w w2 from by rw [← hW]; exact (Keeps.refl _).alloc _)
 have hlt := HT.out.lt
 have hvb : v ≠ b1 := by omega
 rw [← hv]
 clear hW hv hlk c2 hlt
 cases iu with
 |false =>
  have HR := Lib.hid (HN.out (by simp))
  go_wp2_with fail
  exact bodyPost_ret (v := .tuple #[.int .i64 0, .int .i64 7]) (by simp [results, Tryz.results42, go_sem]) rfl (by rw [HR.out]; exact acted_same HT.out HK2.out)
 |true =>
 obtain ⟨u, hu1, hu2, hu3⟩ := HFM.out (by simp)
 have HR := Lib.hid (HOK.out u hu1)
 obtain ⟨e1, -⟩ := HLU.out u hu1
 subst e1
 have HT2 := Lib.hid (HT.out.keeps HK2.out)
 obtain ⟨w3, hdel, ht3, hm3⟩ := HT2.out.delU hlm 0
 have HT3 := Lib.hid ht3
 have HM3 := Lib.hid hm3
 have HV3 := Lib.hid (HV.out.mods hm3 (fun e => hvb e))
 obtain ⟨-, -, c2, -⟩ := HT2.out.cells
 clear hu1 hu2 hu3 HN HOK HFM HLU ht3 hm3
 go_upto_region 5 with fail
 clear hdel c2
 have v0 : w3.cell? ⟨v, 0, none⟩ = some (.int .i64 u.n) := by rw [HV3.out.cell]; rfl
 go_wp2_with fail
 refine bodyPost_ret (v := .tuple #[.int .i64 u.n, .int .i64 0]) (by simp [results, Tryz.results42, go_sem]) rfl ?_
 rw [HR.out]
 refine ⟨rfl, HT3.out.mono (Nat.le_succ n), ?_⟩
 have h1 : Mods (TFr g b1 b2) w w2 := Mods.of_keeps HK2.out
 exact h1.trans HM3.out (fun x hx _ => .inr (.inl hx))
set_option maxRecDepth 100000 in
set_option maxHeartbeats 2000000 in
theorem dropAlias_any (w : World) (g b1 b2 n : Nat) (t : TabP) (h : TabAt w g b1 b2 n t) (name : Str) (hl : name.length ≤ 1000000) : Calls Tryz.prog 45 #[.pointer (some ⟨g, 0, none⟩), .string (bstr name)] w (ActedE w g b1 b2 n (dropA t name)) := by
 have HT := Lib.hid h
 have hlm : name.length ≤ maxLen := by unfold maxLen; omega
 have HN := Lib.hid (@dropA_none t name)
 have HOK := Lib.hid (@dropA_ok t name)
 obtain ⟨sa, pa, na, ca, hlk⟩ := lookA_forms h hlm
 obtain ⟨iu, hiu⟩ : ∃ z, decide (name ∈ namesA t) = z := ⟨_, rfl⟩
 rw [hiu] at hlk HN HOK
 generalize dropA t name = r at *
 obtain ⟨-, -, -, c3⟩ := h.cells
 clear h hiu
 go_enter Tryz.func45, Tryz.ntmps45
 go_upto_region 2 with fail
 generalize hW : World.alloc w _ = w2
 have HK2 := Lib.hid (show Keeps w w2 from by rw [← hW]; exact (Keeps.refl _).alloc _)
 clear hW hlk c3
 cases iu with
 |false =>
  have HR := Lib.hid (HN.out (by simp))
  go_wp2_with fail
  go_ret
  rw [HR.out]
  exact actedE_same HT.out HK2.out
 |true =>
 have HR := Lib.hid (HOK.out (by simp))
 have HT2 := Lib.hid (HT.out.keeps HK2.out)
 obtain ⟨w3, hdel, ht3, hm3⟩ := HT2.out.delA hlm 0
 have HT3 := Lib.hid ht3
 have HM3 := Lib.hid hm3
 obtain ⟨-, -, -, c3⟩ := HT2.out.cells
 clear HN HOK ht3 hm3
 go_wp2_with fail
 go_ret
 rw [HR.out]
 refine ⟨rfl, HT3.out.mono (Nat.le_succ n), ?_⟩
 have h1 : Mods (TFr g b1 b2) w w2 := Mods.of_keeps HK2.out
 exact h1.trans HM3.out (fun x hx _ => .inr (.inr hx))
end Usr
end Go.Proofs.YtklbemkafdccgaaGreat

/- users: counts by names in a map; areNames. -/
namespace Go.Proofs.YtklbemkafdccgaaGreat
open Go.RowKit
namespace Usr
open Adr (Str)
open Mp Go.Maps
def numElem : Value → Option (DataW Unit × List MemPlace)
 | .int .i64 a => some (.lit (.int .i64 a), [])
 | _ => none
def numD (n : Int) : DataW Unit := .lit (.int .i64 n)
theorem numElem_inv {v : Value} {n : Int} {ps : List MemPlace} (h : numElem v = some (numD n, ps)) : v = .int .i64 n := by
 unfold numElem at h
 split at h
 ·simp only [Option.some.injEq, Prod.mk.injEq, numD, DataW.lit.injEq, Lit.int.injEq, true_and] at h
  rw [h.1]
 ·cases h
theorem zeroN_run (w : World) : (zeroValue 3).run Tryz.prog w = .ok (.int .i64 0) w := by kernel_rfl
/-- counts by names -/
def CntAt (w : World) (b n : Nat) (L : List (Str × Int)) : Prop := ∃ D, w.ownsMap Tryz.prog 9 numElem b n D ∧ MapOf strL numD D L
section
variable {w w' : World} {b n : Nat} {L : List (Str × Int)}
theorem CntAt.new (w : World) : CntAt (w.alloc (.map #[] 0)) w.heap.size 0 [] := ⟨_, World.ownsMap_made w Tryz.prog 9 numElem, MapOf.new⟩
theorem CntAt.keeps (h : CntAt w b n L) (k : Keeps w w') : CntAt w' b n L := let ⟨D, h1, h2⟩ := h; ⟨D, map_keepsS h1 k, h2⟩
theorem CntAt.mods {S : Nat → Prop} (h : CntAt w b n L) (k : Mods S w w') (hn : ¬ S b) : CntAt w' b n L := let ⟨D, h1, h2⟩ := h; ⟨D, map_modsS h1 k hn, h2⟩
theorem CntAt.lt (h : CntAt w b n L) : b < w.heap.size := let ⟨_, h1, _⟩ := h; h1.lt
theorem CntAt.get (h : CntAt w b n L) {s : Str} (hs : s.length ≤ maxLen) : (Instr.lookup 120 (.map (some b)) (.string (bstr s)) false).run Tryz.prog w = .ok (.int .i64 ((Mp.look L s).getD 0)) w := by
 obtain ⟨D, h1, h2⟩ := h
 obtain ⟨v, ps, hrun, hv⟩ := look_plain h1 strKeyed Tryz.underlying120 (zeroN_run w) (zd := numD 0) (zp := []) rfl (key_str hs)
 rw [show D.atKey (Lit.string s) (numD 0) = _ from h2.at_ strKind s 0] at hv
 rw [hrun, numElem_inv hv]
theorem CntAt.set_ (h : CntAt w b n L) (hn : n < 1000000) {s : Str} (hs : s.length ≤ maxLen) (v : Int) : ∃ w', (Instr.mapUpdate 120 (.map (some b)) (.string (bstr s)) (.int .i64 v)).run Tryz.prog w = .ok () w' ∧ CntAt w' b (n + 1) (Mp.putL L s v) ∧ Mods (· = b) w w' := by
 obtain ⟨D, h1, h2⟩ := h
 obtain ⟨w', hrun, ho, ht⟩ := h1.store strKeyed Tryz.underlying120 (by unfold maxLen; omega) (val := .int .i64 v) (d := numD v) (ps := []) (key_str hs) rfl
 exact ⟨w', hrun, ⟨_, ho, h2.put strKind s v⟩, turnedS ht⟩
end
/-- each name once -/
def ones (l : List Str) : List (Str × Int) := l.map fun s => (s, 1)
theorem look_ones (l : List Str) (s : Str) : (Mp.look (ones l) s).getD 0 = if s ∈ l then 1 else 0 := by
 unfold ones Mp.look
 rw [List.find?_map, Option.map_map]
 cases h : l.find? ((fun p => decide (p.1 = s)) ∘ fun s => (s, (1 : Int))) with
 |none =>
  rw [List.find?_eq_none] at h
  rw [if_neg]
  ·rfl
  ·intro hm
   have := h s hm
   simp at this
 |some x =>
  have h1 := List.mem_of_find?_eq_some h
  have h2 := List.find?_some h
  simp only [Function.comp, decide_eq_true_eq] at h2
  subst h2
  rw [if_pos h1]
  rfl
theorem ones_new {l : List Str} {s : Str} (h : s ∉ l) (v : Int) : Mp.putL (ones l) s v = ones l ++ [(s, v)] := by
 unfold Mp.putL
 rw [del_id (k := s) (by unfold ones; rw [List.map_map]; simpa [Function.comp_def] using h) rfl]
theorem look_put {α : Type} (L : List (Str × α)) (s : Str) (v : α) : Mp.look (Mp.putL L s v) s = some v := by
 unfold Mp.putL Mp.look
 rw [List.find?_append]
 have : (Mp.del L s).find? (fun p => decide (p.1 = s)) = none := by
  rw [List.find?_eq_none]
  intro p hp
  have := (List.mem_filter.1 hp).2
  simpa using this
 rw [this]
 simp
theorem nodup_snoc {l : List Str} {s : Str} (h : l.Nodup) (hs : s ∉ l) : (l ++ [s]).Nodup := by
 rw [List.nodup_append]
 exact ⟨h, by simp, fun a ha b hb e => by simp only [List.mem_singleton] at hb; subst hb; subst e; exact hs ha⟩
set_option maxRecDepth 100000 in
set_option maxHeartbeats 2000000 in
theorem areNames_any (w : World) (v : Value) (l : List Str) (hr : Row w v (l.map strV)) (hl : ∀ s ∈ l, s.length ≤ 1000000) (hn : l.length ≤ 100000) : Calls Tryz.prog 92 #[v] w fun e w' => e = .returned (.bool (namesB l)) ∧ Keeps w w' := by
 obtain ⟨p, cap, rfl, -, -⟩ := hr.form
 rw [List.length_map]
 have HR := Lib.hid hr
 have HL := Lib.hid hl
 have HC := Lib.hid (CntAt.new w)
 have HK := Lib.hid (show Keeps w (w.alloc (.map #[] 0)) from (Keeps.refl _).alloc _)
 have HBW := Lib.hid (Nat.le_refl w.heap.size)
 have HNB := Lib.hid (show namesB l = (l.all nameB && decide l.Nodup && decide (l ≠ [])) from rfl)
 have hmk : ∀ w, (Instr.makeMap 120 none).run Tryz.prog w = .ok (.map (some w.heap.size)) (w.alloc (.map #[] 0)) := fun w => run_makeMap _ w
 generalize namesB l = r at *
 clear hr hl
 go_enter Tryz.func92, Tryz.ntmps92
 go_upto_region 2 with fail
 generalize w.alloc (.map #[] 0) = w1 at *
 obtain ⟨b, hb⟩ : ∃ z, w.heap.size = z := ⟨_, rfl⟩
 rw [hb] at HC ⊢
 have HBW := Lib.hid (show w.heap.size ≤ b by omega)
 clear hb hmk
 go_wp2_with fail
 go_loopw [9] (fun iv wr => ∃ (i m : Nat), iv = .int .i64 (i : Int) ∧ i ≤ l.length ∧ m ≤ i ∧ Hid (CntAt wr b m (ones (l.take i))) ∧ Hid ((l.take i).all nameB = true ∧ (l.take i).Nodup) ∧ Hid (Keeps w wr)) (fun iv _ => l.length - (RowKit.intOf iv).toNat)
 case atStart => exact ⟨0, 0, rfl, Nat.zero_le _, Nat.le_refl _, HC, Lib.hid ⟨by simp, by simp⟩, HK⟩
 case round =>
  obtain ⟨i, m, rfl, hi, hmi, HC, HG, HK⟩ := hrel
  obtain ⟨wz, rfl⟩ : ∃ z : World, z = wr := ⟨_, rfl⟩
  by_cases hlt : i < l.length
  ·have hw : IntKind.i64.wrap ((i : Int) + 1) = (i : Int) + 1 := IntWalk.i64_in _ (by omega)
   have hcl : ∃ bs o, p = some ⟨bs, o, none⟩ ∧ wz.cell? ⟨bs, o + i, none⟩ = some (.string (bstr l[i])) := by
    rcases HR.out.keeps HK.out with ⟨a0, cap, h1, h2, -, -⟩ | ⟨b, off, cap, h1, h2, h3, h4⟩
    ·have := congrArg List.length h2; rw [List.length_map, List.length_nil] at this; omega
    ·simp only [Value.slice.injEq] at h1
     exact ⟨b, off, h1.1, h4 i _ (by simp [hlt, strV])⟩
   obtain ⟨bs, o, rfl, hcell⟩ := hcl
   have HT := Lib.hid (List.take_succ_eq_append_getElem hlt)
   have HML := Lib.hid (List.getElem_mem hlt)
   have HIN := Lib.hid (show l[i] ∈ l.take i → ¬ l.Nodup from fun hm hnd => by
    have h1 : (l.take i ++ l.drop i).Nodup := by rw [List.take_append_drop]; exact hnd
    exact (List.nodup_append.1 h1).2.2 _ hm _ (by rw [List.drop_eq_getElem_cons hlt]; exact List.mem_cons_self ..) rfl)
   have hsl := HL.out _ (List.getElem_mem hlt)
   generalize l[i] = s at *
   have hsm : s.length ≤ maxLen := by unfold maxLen; omega
   have hget := HC.out.get hsm
   rw [look_ones] at hget
   have CN := Lib.hid (fun w => isName_any s (by omega) w)
   by_cases hin : s ∈ l.take i
   ·rw [if_pos hin] at hget
    have hw2 : IntKind.i64.wrap (1 + 1) = 2 := by decide
    obtain ⟨w2, hset, hc2, hm2⟩ := HC.out.set_ (by omega) hsm 2
    have HC2 := Lib.hid hc2
    have HK2 := Lib.hid (hm2.keeps HK.out (fun x hx => by rw [hx]; exact HBW.out))
    have HRF := Lib.hid (show r = false from by rw [HNB.out, decide_eq_false (HIN.out hin)]; simp)
    clear hc2 hm2 hin
    go_wp2_with fail
    refine (CN.out _).mono ?_
    rintro e w3 ⟨rfl, hk⟩
    have HK3 := Lib.hid (HK2.out.trans hk)
    have hg3 := (HC2.out.keeps hk).get hsm
    rw [show (Mp.look (Mp.putL (ones (l.take i)) s 2) s).getD 0 = 2 from by rw [look_put]; rfl] at hg3
    clear hk hset hget
    generalize nameB s = nb at *
    cases nb <;>
    ·go_wp2_with fail
     go_ret
     exact ⟨by rw [HRF.out]; rfl, HK3.out⟩
   ·rw [if_neg hin] at hget
    have hw2 : IntKind.i64.wrap (0 + 1) = 1 := by decide
    obtain ⟨w2, hset, hc2, hm2⟩ := HC.out.set_ (by omega) hsm 1
    have HC2 := Lib.hid hc2
    have HK2 := Lib.hid (hm2.keeps HK.out (fun x hx => by rw [hx]; exact HBW.out))
    have HON := Lib.hid (show Mp.putL (ones (l.take i)) s 1 = ones (l.take (i + 1)) from by rw [ones_new hin, HT.out]; unfold ones; rw [List.map_append]; rfl)
    have HND := Lib.hid (show (l.take (i + 1)).Nodup from by rw [HT.out]; exact nodup_snoc HG.out.2 hin)
    clear hc2 hm2
    go_wp2_with fail
    refine (CN.out _).mono ?_
    rintro e w3 ⟨rfl, hk⟩
    have HK3 := Lib.hid (HK2.out.trans hk)
    have HC3 := Lib.hid (HC2.out.keeps hk)
    have hg3 := HC3.out.get hsm
    rw [show (Mp.look (Mp.putL (ones (l.take i)) s 1) s).getD 0 = 1 from by rw [look_put]; rfl] at hg3
    have HAL := Lib.hid (fun h : nameB s = true => show (l.take (i + 1)).all nameB = true from by rw [HT.out, List.all_append, HG.out.1]; simp [h])
    have HAF := Lib.hid (fun h : nameB s = false => show r = false from by
     rw [HNB.out]
     have : l.all nameB = false := by rw [List.all_eq_false]; exact ⟨s, HML.out, by simp [h]⟩
     rw [this]
     rfl)
    clear hk hset hget hin
    generalize nameB s = nb at *
    cases nb with
    |false =>
     have HRF := Lib.hid (HAF.out rfl)
     go_wp2_with fail
     go_ret
     exact ⟨by rw [HRF.out]; rfl, HK3.out⟩
    |true =>
     have HA := Lib.hid (HAL.out rfl)
     rw [HON.out] at HC3
     go_wp2_with fail
     go_roundw
     case rel => exact ⟨i + 1, m + 1, by simp, by omega, by omega, HC3, Lib.hid ⟨HA.out, HND.out⟩, HK3⟩
     case measure =>
      simp only [RowKit.intOf]
      omega
  ·have hie : i = l.length := by omega
   have HGG := Lib.hid (show l.all nameB = true ∧ l.Nodup from by have := HG.out; rwa [hie, List.take_length] at this)
   have HRX := Lib.hid (show r = decide (0 < l.length) from by
    rw [HNB.out, HGG.out.1, decide_eq_true HGG.out.2]
    cases l <;> simp)
   clear hie
   go_wp2_with fail
   go_ret
   first
    |exact ⟨retB (by rw [HRX.out]; simp), HK.out⟩
    |exact ⟨by rw [HRX.out]; simp, HK.out⟩
    |exact ⟨retB (by rw [HRX.out]), HK.out⟩
end Usr
end Go.Proofs.YtklbemkafdccgaaGreat
