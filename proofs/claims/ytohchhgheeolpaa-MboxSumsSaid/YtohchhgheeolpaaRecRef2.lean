/- The reference's within, bare, Check of records. Printed by gen_recref.py. -/
import Derived.Test.YtohchhgheeolpaaRecRef
import Derived.Test.YtohchhgheeolpaaRecMem
namespace Go.Proofs.Ytohchhgheeolpaa
open Go.RowKit
namespace Rcd
open Oct Frm

set_option maxRecDepth 100000 in
set_option maxHeartbeats 2000000 in
theorem within_any (r : Rec) (v : Value) (w : World) (hr : Row w v (r.data.map u8v)) (hk : 1 ≤ r.kind ∧ r.kind ≤ 6) :
    Calls Try.prog 193 #[.agg (recA r v)] w fun e w' => e = .returned (.bool (within r)) ∧ Keeps w w' := by
  obtain ⟨pv, cv, rfl, -, -⟩ := hr.form
  have hnl : (List.map u8v r.data).length = r.data.length := by simp
  rw [hnl] at hr ⊢
  clear hnl
  have HR := Lib.hid hr
  clear hr
  unfold recA
  go_enter Try.func193, Try.ntmps193
  go_upto_region 1 with fail
  generalize hW : World.alloc w _ = w1
  have HK := Lib.hid (show Keeps w w1 from by rw [← hW]; exact (Keeps.refl _).alloc _)
  have HA := Lib.hid (show Blk w1 w.heap.size 82 (recA r (.slice pv r.data.length cv)) from by rw [← hW]; exact Blk.new _ _ _ rfl)
  clear hW
  obtain ⟨Q, hQ⟩ : ∃ Q, Q = w.heap.size := ⟨_, rfl⟩
  rw [← hQ] at HA ⊢
  have HQ := Lib.hid hQ
  clear hQ
  obtain ⟨a0, a1, a2, a3, a4, a5, a6, a7, a8, a9, a10, a11⟩ := rec12 HA.out

  by_cases k1 : r.kind = 1
  · have HW : Hid (within r = ((decide (1 ≤ r.user) && decide (r.user ≤ 999)) && ((decide (1 ≤ r.seq) && decide (r.seq ≤ 2147483648)) && ((decide (1 ≤ r.next) && decide (r.next ≤ 2147483649)) && (decide (0 ≤ r.base) && decide (r.base ≤ 2147483648)))))) := Lib.hid (by unfold within partsL; rw [k1]; simp [okP, fld, pUid, pFlags, pBody, pNext])
    have e1 : (r.kind == 1) = true := by simp [k1]
    clear hk k1
    have C0 := Lib.hid (fun w => in_any r.user 1 999 w)
    have C1 := Lib.hid (fun w => in_any r.seq 1 2147483648 w)
    have C2 := Lib.hid (fun w => in_any r.next 1 2147483649 w)
    have C3 := Lib.hid (fun w => in_any r.base 0 2147483648 w)
    generalize (decide (1 ≤ r.user) && decide (r.user ≤ 999)) = b0 at *
    generalize (decide (1 ≤ r.seq) && decide (r.seq ≤ 2147483648)) = b1 at *
    generalize (decide (1 ≤ r.next) && decide (r.next ≤ 2147483649)) = b2 at *
    generalize (decide (0 ≤ r.base) && decide (r.base ≤ 2147483648)) = b3 at *
    go_wp2_with fail
    refine (C0.out _).mono ?_
    rintro e w' ⟨rfl, rfl⟩
    cases b0 with
    | false =>
      go_wp2_with fail
      go_ret
      exact ⟨(congrArg (fun b => Ending.returned (Value.bool b)) HW.out).symm, HK.out⟩
    | true =>
      go_wp2_with fail
      refine (C1.out _).mono ?_
      rintro e w' ⟨rfl, rfl⟩
      cases b1 with
      | false =>
        go_wp2_with fail
        go_ret
        exact ⟨(congrArg (fun b => Ending.returned (Value.bool b)) HW.out).symm, HK.out⟩
      | true =>
        go_wp2_with fail
        refine (C2.out _).mono ?_
        rintro e w' ⟨rfl, rfl⟩
        cases b2 with
        | false =>
          go_wp2_with fail
          go_ret
          exact ⟨(congrArg (fun b => Ending.returned (Value.bool b)) HW.out).symm, HK.out⟩
        | true =>
          go_wp2_with fail
          refine (C3.out _).mono ?_
          rintro e w' ⟨rfl, rfl⟩
          cases b3 with
          | false =>
            go_wp2_with fail
            go_ret
            exact ⟨(congrArg (fun b => Ending.returned (Value.bool b)) HW.out).symm, HK.out⟩
          | true =>
            go_wp2_with fail
            go_ret
            exact ⟨(congrArg (fun b => Ending.returned (Value.bool b)) HW.out).symm, HK.out⟩
  by_cases k2 : r.kind = 2
  · have HW : Hid (within r = ((decide (1 ≤ r.uid) && decide (r.uid ≤ 2147483648)) && ((decide (0 ≤ r.time) && decide (r.time ≤ 4503599627370496)) && ((decide (0 ≤ r.flags) && decide (r.flags ≤ 31)) && ((decide (1 ≤ r.body) && decide (r.body ≤ 2147483648)) && ((decide (0 ≤ r.size) && decide (r.size ≤ 32768)) && (decide (0 ≤ r.origin) && decide (r.origin ≤ 9007199254740992)))))))) := Lib.hid (by unfold within partsL; rw [k2]; simp [okP, fld, pUid, pFlags, pBody, pNext])
    have e1 : (r.kind == 1) = false := by simp [k1]
    have e2 : (r.kind == 2) = true := by simp [k2]
    clear hk k1 k2
    have C0 := Lib.hid (fun w => in_any r.uid 1 2147483648 w)
    have C1 := Lib.hid (fun w => in_any r.time 0 4503599627370496 w)
    have C2 := Lib.hid (fun w => in_any r.flags 0 31 w)
    have C3 := Lib.hid (fun w => in_any r.body 1 2147483648 w)
    have C4 := Lib.hid (fun w => in_any r.size 0 32768 w)
    have C5 := Lib.hid (fun w => in_any r.origin 0 9007199254740992 w)
    generalize (decide (1 ≤ r.uid) && decide (r.uid ≤ 2147483648)) = b0 at *
    generalize (decide (0 ≤ r.time) && decide (r.time ≤ 4503599627370496)) = b1 at *
    generalize (decide (0 ≤ r.flags) && decide (r.flags ≤ 31)) = b2 at *
    generalize (decide (1 ≤ r.body) && decide (r.body ≤ 2147483648)) = b3 at *
    generalize (decide (0 ≤ r.size) && decide (r.size ≤ 32768)) = b4 at *
    generalize (decide (0 ≤ r.origin) && decide (r.origin ≤ 9007199254740992)) = b5 at *
    go_wp2_with fail
    refine (C0.out _).mono ?_
    rintro e w' ⟨rfl, rfl⟩
    cases b0 with
    | false =>
      go_wp2_with fail
      go_ret
      exact ⟨(congrArg (fun b => Ending.returned (Value.bool b)) HW.out).symm, HK.out⟩
    | true =>
      go_wp2_with fail
      refine (C1.out _).mono ?_
      rintro e w' ⟨rfl, rfl⟩
      cases b1 with
      | false =>
        go_wp2_with fail
        go_ret
        exact ⟨(congrArg (fun b => Ending.returned (Value.bool b)) HW.out).symm, HK.out⟩
      | true =>
        go_wp2_with fail
        refine (C2.out _).mono ?_
        rintro e w' ⟨rfl, rfl⟩
        cases b2 with
        | false =>
          go_wp2_with fail
          go_ret
          exact ⟨(congrArg (fun b => Ending.returned (Value.bool b)) HW.out).symm, HK.out⟩
        | true =>
          go_wp2_with fail
          refine (C3.out _).mono ?_
          rintro e w' ⟨rfl, rfl⟩
          cases b3 with
          | false =>
            go_wp2_with fail
            go_ret
            exact ⟨(congrArg (fun b => Ending.returned (Value.bool b)) HW.out).symm, HK.out⟩
          | true =>
            go_wp2_with fail
            refine (C4.out _).mono ?_
            rintro e w' ⟨rfl, rfl⟩
            cases b4 with
            | false =>
              go_wp2_with fail
              go_ret
              exact ⟨(congrArg (fun b => Ending.returned (Value.bool b)) HW.out).symm, HK.out⟩
            | true =>
              go_wp2_with fail
              refine (C5.out _).mono ?_
              rintro e w' ⟨rfl, rfl⟩
              cases b5 with
              | false =>
                go_wp2_with fail
                go_ret
                exact ⟨(congrArg (fun b => Ending.returned (Value.bool b)) HW.out).symm, HK.out⟩
              | true =>
                go_wp2_with fail
                go_ret
                exact ⟨(congrArg (fun b => Ending.returned (Value.bool b)) HW.out).symm, HK.out⟩
  by_cases k3 : r.kind = 3
  · have HW : Hid (within r = (decide (1 ≤ r.uid) && decide (r.uid ≤ 2147483648))) := Lib.hid (by unfold within partsL; rw [k3]; simp [okP, fld, pUid, pFlags, pBody, pNext])
    have e1 : (r.kind == 1) = false := by simp [k1]
    have e2 : (r.kind == 2) = false := by simp [k2]
    have e3 : (r.kind == 3) = true := by simp [k3]
    clear hk k1 k2 k3
    have C0 := Lib.hid (fun w => in_any r.uid 1 2147483648 w)
    generalize (decide (1 ≤ r.uid) && decide (r.uid ≤ 2147483648)) = b0 at *
    go_wp2_with fail
    refine (C0.out _).mono ?_
    rintro e w' ⟨rfl, rfl⟩
    cases b0 with
    | false =>
      go_wp2_with fail
      go_ret
      exact ⟨(congrArg (fun b => Ending.returned (Value.bool b)) HW.out).symm, HK.out⟩
    | true =>
      go_wp2_with fail
      go_ret
      exact ⟨(congrArg (fun b => Ending.returned (Value.bool b)) HW.out).symm, HK.out⟩
  by_cases k4 : r.kind = 4
  · have HW : Hid (within r = ((decide (1 ≤ r.uid) && decide (r.uid ≤ 2147483648)) && (decide (0 ≤ r.flags) && decide (r.flags ≤ 31)))) := Lib.hid (by unfold within partsL; rw [k4]; simp [okP, fld, pUid, pFlags, pBody, pNext])
    have e1 : (r.kind == 1) = false := by simp [k1]
    have e2 : (r.kind == 2) = false := by simp [k2]
    have e3 : (r.kind == 3) = false := by simp [k3]
    have e4 : (r.kind == 4) = true := by simp [k4]
    clear hk k1 k2 k3 k4
    have C0 := Lib.hid (fun w => in_any r.uid 1 2147483648 w)
    have C1 := Lib.hid (fun w => in_any r.flags 0 31 w)
    generalize (decide (1 ≤ r.uid) && decide (r.uid ≤ 2147483648)) = b0 at *
    generalize (decide (0 ≤ r.flags) && decide (r.flags ≤ 31)) = b1 at *
    go_wp2_with fail
    refine (C0.out _).mono ?_
    rintro e w' ⟨rfl, rfl⟩
    cases b0 with
    | false =>
      go_wp2_with fail
      go_ret
      exact ⟨(congrArg (fun b => Ending.returned (Value.bool b)) HW.out).symm, HK.out⟩
    | true =>
      go_wp2_with fail
      refine (C1.out _).mono ?_
      rintro e w' ⟨rfl, rfl⟩
      cases b1 with
      | false =>
        go_wp2_with fail
        go_ret
        exact ⟨(congrArg (fun b => Ending.returned (Value.bool b)) HW.out).symm, HK.out⟩
      | true =>
        go_wp2_with fail
        go_ret
        exact ⟨(congrArg (fun b => Ending.returned (Value.bool b)) HW.out).symm, HK.out⟩
  by_cases k5 : r.kind = 5
  · have HW : Hid (within r = (decide (1 ≤ r.next) && decide (r.next ≤ 2147483649))) := Lib.hid (by unfold within partsL; rw [k5]; simp [okP, fld, pUid, pFlags, pBody, pNext])
    have e1 : (r.kind == 1) = false := by simp [k1]
    have e2 : (r.kind == 2) = false := by simp [k2]
    have e3 : (r.kind == 3) = false := by simp [k3]
    have e4 : (r.kind == 4) = false := by simp [k4]
    have e5 : (r.kind == 5) = true := by simp [k5]
    clear hk k1 k2 k3 k4 k5
    have C0 := Lib.hid (fun w => in_any r.next 1 2147483649 w)
    generalize (decide (1 ≤ r.next) && decide (r.next ≤ 2147483649)) = b0 at *
    go_wp2_with fail
    refine (C0.out _).mono ?_
    rintro e w' ⟨rfl, rfl⟩
    cases b0 with
    | false =>
      go_wp2_with fail
      go_ret
      exact ⟨(congrArg (fun b => Ending.returned (Value.bool b)) HW.out).symm, HK.out⟩
    | true =>
      go_wp2_with fail
      go_ret
      exact ⟨(congrArg (fun b => Ending.returned (Value.bool b)) HW.out).symm, HK.out⟩
  have k6 : r.kind = 6 := by omega
  have HW : Hid (within r = (decide (1 ≤ r.body) && decide (r.body ≤ 2147483648))) := Lib.hid (by unfold within partsL; rw [k6]; simp [okP, fld, pUid, pFlags, pBody, pNext])
  have e1 : (r.kind == 1) = false := by simp [k1]
  have e2 : (r.kind == 2) = false := by simp [k2]
  have e3 : (r.kind == 3) = false := by simp [k3]
  have e4 : (r.kind == 4) = false := by simp [k4]
  have e5 : (r.kind == 5) = false := by simp [k5]
  clear hk k1 k2 k3 k4 k5 k6
  have C0 := Lib.hid (fun w => in_any r.body 1 2147483648 w)
  generalize (decide (1 ≤ r.body) && decide (r.body ≤ 2147483648)) = b0 at *
  go_wp2_with fail
  refine (C0.out _).mono ?_
  rintro e w' ⟨rfl, rfl⟩
  cases b0 with
  | false =>
    go_wp2_with fail
    go_ret
    exact ⟨(congrArg (fun b => Ending.returned (Value.bool b)) HW.out).symm, HK.out⟩
  | true =>
    go_wp2_with fail
    go_ret
    exact ⟨(congrArg (fun b => Ending.returned (Value.bool b)) HW.out).symm, HK.out⟩

set_option maxRecDepth 100000 in
set_option maxHeartbeats 2000000 in
theorem rBare_any (r : Rec) (v : Value) (w : World) (hr : Row w v (r.data.map u8v)) :
    Calls Try.prog 195 #[.agg (recA r v)] w fun e w' => ∃ p n c, e = .returned (.agg (recA (bare r) (.slice p n c))) ∧ Row w (.slice p n c) ((bare r).data.map u8v) ∧ Keeps w w' := by
  obtain ⟨pv, cv, rfl, -, -⟩ := hr.form
  have hnl : (List.map u8v r.data).length = r.data.length := by simp
  rw [hnl] at hr ⊢
  clear hnl
  have HR := Lib.hid hr
  clear hr
  unfold recA
  go_enter Try.func195, Try.ntmps195
  go_upto_region 1 with fail
  generalize hW : World.alloc (World.alloc w _) _ = w1
  have HK := Lib.hid (show Keeps w w1 from by rw [← hW]; exact ((Keeps.refl _).alloc _).alloc _)
  have HA := Lib.hid (show Blk w1 w.heap.size 82 (recA r (.slice pv r.data.length cv)) from by rw [← hW]; exact (Blk.new _ _ _ rfl).alloc _)
  have HZ := Lib.hid (show Blk w1 (w.heap.size + 1) 82 (recA ⟨0, 0, 0, 0, 0, 0, 0, 0, 0, 0, 0, []⟩ (.slice none 0 0)) from by rw [← hW]; exact Blk.new _ _ _ (by rw [asz]))
  clear hW
  obtain ⟨Q, hQ⟩ : ∃ Q, Q = w.heap.size := ⟨_, rfl⟩
  rw [← hQ] at HA HZ ⊢
  have HQ := Lib.hid hQ
  clear hQ
  obtain ⟨a0, a1, a2, a3, a4, a5, a6, a7, a8, a9, a10, a11⟩ := rec12 HA.out

  by_cases k1 : r.kind = 1
  · have HB : Hid (bare r = ⟨1, r.user, r.seq, r.next, r.base, 0, 0, 0, 0, 0, 0, []⟩) := Lib.hid (by unfold bare; rw [if_pos k1])
    have e1 : (r.kind == 1) = true := by simp [k1]
    clear k1
    go_wp2_with (refine wpList_st (ds := recA ⟨1, r.user, r.seq, r.next, r.base, 0, 0, 0, 0, 0, 0, []⟩ (.slice none 0 0)) rfl recM HZ.out rfl (recA_one _ _ _ _) _ _ rfl rfl rfl rfl ?_; intro w6 hB6 hM6)
    have HLd := Lib.hid (ld_run (P := Try.prog) recM hB6)
    have HX := Lib.hid (hM6.keeps HK.out (fun x hx => by have := HQ.out; omega))
    clear hB6 hM6
    exact bodyPost_ret (v := .agg (recA ⟨1, r.user, r.seq, r.next, r.base, 0, 0, 0, 0, 0, 0, []⟩ (.slice none 0 0))) (by simp [results, Try.results195, Sem.run_bind, Sem.run_pure, Result.andThen_ok, Act.put, asAddr, HLd.out]) rfl ⟨none, 0, 0, (congrArg (fun x => Ending.returned (Value.agg (recA x (.slice none 0 0)))) HB.out).symm, (by rw [HB.out]; exact row_nil _), HX.out⟩
  by_cases k2 : r.kind = 2
  · have HB : Hid (bare r = ⟨2, 0, 0, 0, 0, r.uid, r.time, r.flags, r.body, r.size, r.origin, []⟩) := Lib.hid (by unfold bare; rw [if_neg k1]; rw [if_pos k2])
    have e1 : (r.kind == 1) = false := by simp [k1]
    have e2 : (r.kind == 2) = true := by simp [k2]
    clear k1 k2
    go_wp2_with (refine wpList_st (ds := recA ⟨2, 0, 0, 0, 0, r.uid, r.time, r.flags, r.body, r.size, r.origin, []⟩ (.slice none 0 0)) rfl recM HZ.out rfl (recA_one _ _ _ _) _ _ rfl rfl rfl rfl ?_; intro w6 hB6 hM6)
    have HLd := Lib.hid (ld_run (P := Try.prog) recM hB6)
    have HX := Lib.hid (hM6.keeps HK.out (fun x hx => by have := HQ.out; omega))
    clear hB6 hM6
    exact bodyPost_ret (v := .agg (recA ⟨2, 0, 0, 0, 0, r.uid, r.time, r.flags, r.body, r.size, r.origin, []⟩ (.slice none 0 0))) (by simp [results, Try.results195, Sem.run_bind, Sem.run_pure, Result.andThen_ok, Act.put, asAddr, HLd.out]) rfl ⟨none, 0, 0, (congrArg (fun x => Ending.returned (Value.agg (recA x (.slice none 0 0)))) HB.out).symm, (by rw [HB.out]; exact row_nil _), HX.out⟩
  by_cases k3 : r.kind = 3
  · have HB : Hid (bare r = ⟨3, 0, 0, 0, 0, r.uid, 0, 0, 0, 0, 0, []⟩) := Lib.hid (by unfold bare; rw [if_neg k1]; rw [if_neg k2]; rw [if_pos k3])
    have e1 : (r.kind == 1) = false := by simp [k1]
    have e2 : (r.kind == 2) = false := by simp [k2]
    have e3 : (r.kind == 3) = true := by simp [k3]
    clear k1 k2 k3
    go_wp2_with (refine wpList_st (ds := recA ⟨3, 0, 0, 0, 0, r.uid, 0, 0, 0, 0, 0, []⟩ (.slice none 0 0)) rfl recM HZ.out rfl (recA_one _ _ _ _) _ _ rfl rfl rfl rfl ?_; intro w6 hB6 hM6)
    have HLd := Lib.hid (ld_run (P := Try.prog) recM hB6)
    have HX := Lib.hid (hM6.keeps HK.out (fun x hx => by have := HQ.out; omega))
    clear hB6 hM6
    exact bodyPost_ret (v := .agg (recA ⟨3, 0, 0, 0, 0, r.uid, 0, 0, 0, 0, 0, []⟩ (.slice none 0 0))) (by simp [results, Try.results195, Sem.run_bind, Sem.run_pure, Result.andThen_ok, Act.put, asAddr, HLd.out]) rfl ⟨none, 0, 0, (congrArg (fun x => Ending.returned (Value.agg (recA x (.slice none 0 0)))) HB.out).symm, (by rw [HB.out]; exact row_nil _), HX.out⟩
  by_cases k4 : r.kind = 4
  · have HB : Hid (bare r = ⟨4, 0, 0, 0, 0, r.uid, 0, r.flags, 0, 0, 0, []⟩) := Lib.hid (by unfold bare; rw [if_neg k1]; rw [if_neg k2]; rw [if_neg k3]; rw [if_pos k4])
    have e1 : (r.kind == 1) = false := by simp [k1]
    have e2 : (r.kind == 2) = false := by simp [k2]
    have e3 : (r.kind == 3) = false := by simp [k3]
    have e4 : (r.kind == 4) = true := by simp [k4]
    clear k1 k2 k3 k4
    go_wp2_with (refine wpList_st (ds := recA ⟨4, 0, 0, 0, 0, r.uid, 0, r.flags, 0, 0, 0, []⟩ (.slice none 0 0)) rfl recM HZ.out rfl (recA_one _ _ _ _) _ _ rfl rfl rfl rfl ?_; intro w6 hB6 hM6)
    have HLd := Lib.hid (ld_run (P := Try.prog) recM hB6)
    have HX := Lib.hid (hM6.keeps HK.out (fun x hx => by have := HQ.out; omega))
    clear hB6 hM6
    exact bodyPost_ret (v := .agg (recA ⟨4, 0, 0, 0, 0, r.uid, 0, r.flags, 0, 0, 0, []⟩ (.slice none 0 0))) (by simp [results, Try.results195, Sem.run_bind, Sem.run_pure, Result.andThen_ok, Act.put, asAddr, HLd.out]) rfl ⟨none, 0, 0, (congrArg (fun x => Ending.returned (Value.agg (recA x (.slice none 0 0)))) HB.out).symm, (by rw [HB.out]; exact row_nil _), HX.out⟩
  by_cases k5 : r.kind = 5
  · have HB : Hid (bare r = ⟨5, 0, 0, r.next, 0, 0, 0, 0, 0, 0, 0, []⟩) := Lib.hid (by unfold bare; rw [if_neg k1]; rw [if_neg k2]; rw [if_neg k3]; rw [if_neg k4]; rw [if_pos k5])
    have e1 : (r.kind == 1) = false := by simp [k1]
    have e2 : (r.kind == 2) = false := by simp [k2]
    have e3 : (r.kind == 3) = false := by simp [k3]
    have e4 : (r.kind == 4) = false := by simp [k4]
    have e5 : (r.kind == 5) = true := by simp [k5]
    clear k1 k2 k3 k4 k5
    go_wp2_with (refine wpList_st (ds := recA ⟨5, 0, 0, r.next, 0, 0, 0, 0, 0, 0, 0, []⟩ (.slice none 0 0)) rfl recM HZ.out rfl (recA_one _ _ _ _) _ _ rfl rfl rfl rfl ?_; intro w6 hB6 hM6)
    have HLd := Lib.hid (ld_run (P := Try.prog) recM hB6)
    have HX := Lib.hid (hM6.keeps HK.out (fun x hx => by have := HQ.out; omega))
    clear hB6 hM6
    exact bodyPost_ret (v := .agg (recA ⟨5, 0, 0, r.next, 0, 0, 0, 0, 0, 0, 0, []⟩ (.slice none 0 0))) (by simp [results, Try.results195, Sem.run_bind, Sem.run_pure, Result.andThen_ok, Act.put, asAddr, HLd.out]) rfl ⟨none, 0, 0, (congrArg (fun x => Ending.returned (Value.agg (recA x (.slice none 0 0)))) HB.out).symm, (by rw [HB.out]; exact row_nil _), HX.out⟩
  have k6 : True := trivial
  have HB : Hid (bare r = ⟨6, 0, 0, 0, 0, 0, 0, 0, r.body, 0, 0, r.data⟩) := Lib.hid (by unfold bare; rw [if_neg k1]; rw [if_neg k2]; rw [if_neg k3]; rw [if_neg k4]; rw [if_neg k5])
  have e1 : (r.kind == 1) = false := by simp [k1]
  have e2 : (r.kind == 2) = false := by simp [k2]
  have e3 : (r.kind == 3) = false := by simp [k3]
  have e4 : (r.kind == 4) = false := by simp [k4]
  have e5 : (r.kind == 5) = false := by simp [k5]
  clear k1 k2 k3 k4 k5 k6
  go_wp2_with (refine wpList_st (ds := recA ⟨6, 0, 0, 0, 0, 0, 0, 0, r.body, 0, 0, r.data⟩ (.slice pv r.data.length cv)) rfl recM HZ.out rfl (recA_one _ _ _ _) _ _ rfl rfl rfl rfl ?_; intro w6 hB6 hM6)
  have HLd := Lib.hid (ld_run (P := Try.prog) recM hB6)
  have HX := Lib.hid (hM6.keeps HK.out (fun x hx => by have := HQ.out; omega))
  clear hB6 hM6
  exact bodyPost_ret (v := .agg (recA ⟨6, 0, 0, 0, 0, 0, 0, 0, r.body, 0, 0, r.data⟩ (.slice pv r.data.length cv))) (by simp [results, Try.results195, Sem.run_bind, Sem.run_pure, Result.andThen_ok, Act.put, asAddr, HLd.out]) rfl ⟨pv, r.data.length, cv, (congrArg (fun x => Ending.returned (Value.agg (recA x (.slice pv r.data.length cv)))) HB.out).symm, (by rw [HB.out]; exact HR.out), HX.out⟩

set_option maxRecDepth 100000 in
set_option maxHeartbeats 2000000 in
theorem rCheck_any (r : Rec) (v : Value) (w : World) (hr : Row w v (r.data.map u8v)) :
    Calls Try.prog 139 #[.agg (recA r v)] w fun e w' => e = .returned (.int .i64 (chk r)) ∧ Keeps w w' := by
  obtain ⟨pv, cv, rfl, -, -⟩ := hr.form
  have hnl : (List.map u8v r.data).length = r.data.length := by simp
  rw [hnl] at hr ⊢
  clear hnl
  have HR := Lib.hid hr
  clear hr
  have HW := Lib.hid (fun w h k => within_any r (.slice pv r.data.length cv) w h k)
  have HB := Lib.hid (fun w h => rBare_any r (.slice pv r.data.length cv) w h)
  have HS := Lib.hid (fun p n c w h1 h2 => rSame_any r (bare r) (.slice pv r.data.length cv) (.slice p n c) w h1 h2)
  unfold recA
  go_enter Try.func139, Try.ntmps139
  go_upto_region 1 with fail
  generalize hW : World.alloc w _ = w1
  have HK := Lib.hid (show Keeps w w1 from by rw [← hW]; exact (Keeps.refl _).alloc _)
  have HA := Lib.hid (show Blk w1 w.heap.size 82 (recA r (.slice pv r.data.length cv)) from by rw [← hW]; exact Blk.new _ _ _ rfl)
  clear hW
  obtain ⟨Q, hQ⟩ : ∃ Q, Q = w.heap.size := ⟨_, rfl⟩
  rw [← hQ] at HA ⊢
  have HQ := Lib.hid hQ
  clear hQ
  obtain ⟨a0, a1, a2, a3, a4, a5, a6, a7, a8, a9, a10, a11⟩ := rec12 HA.out
  by_cases k1 : r.kind < 1
  · have HX : Hid (chk r = 16) := Lib.hid (if_pos (.inl k1))
    have e1 : decide (r.kind < 1) = true := decide_eq_true k1
    clear k1
    go_wp2_with fail
    go_ret
    exact ⟨(congrArg (fun n => Ending.returned (Value.int .i64 n)) HX.out).symm, HK.out⟩
  by_cases k2 : 6 < r.kind
  · have HX : Hid (chk r = 16) := Lib.hid (if_pos (.inr k2))
    have e1 : decide (r.kind < 1) = false := decide_eq_false k1
    have e2 : decide (6 < r.kind) = true := decide_eq_true k2
    clear k1 k2
    go_wp2_with fail
    go_ret
    exact ⟨(congrArg (fun n => Ending.returned (Value.int .i64 n)) HX.out).symm, HK.out⟩
  have e1 : decide (r.kind < 1) = false := decide_eq_false k1
  have e2 : decide (6 < r.kind) = false := decide_eq_false k2
  have HX0 : Hid (chk r = if within r = false then 1 else if r.kind = 6 ∧ 32768 < r.data.length then 4 else if r = bare r then 0 else 3) := Lib.hid (by unfold chk; rw [if_neg (by omega)])
  have HWC := Lib.hid (HW.out w1 (HR.out.keeps HK.out) ⟨by omega, by omega⟩)
  clear k1 k2 HW
  go_wp2_with fail
  refine HWC.out.mono ?_
  rintro e w2 ⟨rfl, hk2⟩
  have HK := Lib.hid (HK.out.trans hk2)
  have HA := Lib.hid (HA.out.keeps hk2)
  clear HWC hk2 a0 a1 a2 a3 a4 a5 a6 a7 a8 a9 a10 a11
  obtain ⟨a0, a1, a2, a3, a4, a5, a6, a7, a8, a9, a10, a11⟩ := rec12 HA.out
  generalize within r = wi at *
  cases wi with
  | false =>
    go_wp2_with fail
    go_ret
    exact ⟨(congrArg (fun n => Ending.returned (Value.int .i64 n)) (HX0.out.trans (if_pos (by simp)))).symm, HK.out⟩
  | true =>
    have HX1 : Hid (chk r = if r.kind = 6 ∧ 32768 < r.data.length then 4 else if r = bare r then 0 else 3) := Lib.hid (HX0.out.trans (if_neg (by simp)))
    clear HX0
    by_cases k6 : r.kind = 6 ∧ 32768 < r.data.length
    · have HX : Hid (chk r = 4) := Lib.hid (HX1.out.trans (if_pos k6))
      have e6 : (r.kind == 6) = true := by simp [k6.1]
      have e7 : decide (32768 < (r.data.length : Int)) = true := decide_eq_true (by omega)
      clear k6 HX1
      go_wp2_with fail
      go_ret
      exact ⟨(congrArg (fun n => Ending.returned (Value.int .i64 n)) HX.out).symm, HK.out⟩
    · have HX : Hid (chk r = if r = bare r then 0 else 3) := Lib.hid (HX1.out.trans (if_neg k6))
      clear HX1

      by_cases h6 : r.kind = 6
      · have e6 : (r.kind == 6) = true := by simp [h6]
        have e7 : decide (32768 < (r.data.length : Int)) = false := decide_eq_false (by omega)
        clear k6 h6
        go_upto_region 7 with fail
        have HD := Lib.hid ((Keeps.refl w2).drew)
        refine wp_region_noPanic ?_
        refine wp_region_held_drew (S := fun w' => Keeps (w2) w') (by kernel_rfl) ((Keeps.refl _).drew) (fun _ => ?_)
        have hHeld : Keeps (w2) (w2).drew := (Keeps.refl _).drew
        refine wpAnyH_take (i := 0) (v := ?vv1) (by rfl) (by kernel_rfl) (by kernel_rfl) (by kernel_rfl) (by intro _ _ _ h; exact h) (Or.inl ⟨by kernel_rfl, ?hy1⟩) (by assumption) ?rest1
        case hy1 =>
          intro w' hSw
          have hSw : Keeps _ w' := hSw
          have h0 := keep1 hSw a0
          have h1 := keep1 hSw a1
          have h2 := keep1 hSw a2
          have h3 := keep1 hSw a3
          have h4 := keep1 hSw a4
          have h5 := keep1 hSw a5
          have h6 := keep1 hSw a6
          have h7 := keep1 hSw a7
          have h8 := keep1 hSw a8
          have h9 := keep1 hSw a9
          have h10 := keep1 hSw a10
          have h11 := keep1 hSw a11
          clear hSw
          go_simp
          try with_reducible rfl
        change wpAnyH _ _ _ _ _ _ _ (Act.put _ (some 23) _) _
        try simp only [Act.put, List.setIfInBounds_toArray, List.set_cons_zero, List.set_cons_succ]
        refine wpAnyH_take (i := 1) (v := ?vv2) (by rfl) (by kernel_rfl) (by kernel_rfl) (by kernel_rfl) (by intro _ _ _ h; exact h) (Or.inl ⟨by kernel_rfl, ?hy2⟩) (by assumption) ?rest2
        case hy2 =>
          intro w' hSw
          have hSw : Keeps _ w' := hSw
          have h0 := keep1 hSw a0
          have h1 := keep1 hSw a1
          have h2 := keep1 hSw a2
          have h3 := keep1 hSw a3
          have h4 := keep1 hSw a4
          have h5 := keep1 hSw a5
          have h6 := keep1 hSw a6
          have h7 := keep1 hSw a7
          have h8 := keep1 hSw a8
          have h9 := keep1 hSw a9
          have h10 := keep1 hSw a10
          have h11 := keep1 hSw a11
          clear hSw
          go_simp
          try with_reducible rfl
        change wpAnyH _ _ _ _ _ _ _ (Act.put _ (some 24) _) _
        try simp only [Act.put, List.setIfInBounds_toArray, List.set_cons_zero, List.set_cons_succ]
        refine wpAnyH_ready (rs := [2]) (by kernel_rfl) (by simp) ?_
        refine AllReadyH.cons (o := _) rfl (fun K hK => ?_) AllReadyH.nil
        go_simp
        refine (HB.out _ (HR.out.keeps (HK.out.trans HD.out))).mono ?_
        rintro e w5 ⟨p5, n5, c5, rfl, hrow5, hk⟩
        have hb : Keeps _ w5 := hHeld.trans hk
        have HRW := Lib.hid (hrow5.keeps hk)
        have HK5 := Lib.hid ((HK.out.trans HD.out).trans hk)
        go_wp2_with fail
        refine hK.out _ _ hb (fun _ => ?_)
        clear hK K
        try simp only [Act.put, List.setIfInBounds_toArray, List.set_cons_zero, List.set_cons_succ]
        refine wpAnyH_more (S' := fun w' => Keeps w5 w') (fun _ h => hb.trans h) ?_
        clear hHeld hb hk
        have hHeld : Keeps w5 w5 := Keeps.refl _
        refine wpAnyH_ready (rs := [3]) (by kernel_rfl) (by simp) ?_
        refine AllReadyH.cons (o := _) rfl (fun K hK => ?_) AllReadyH.nil
        go_simp
        refine (HS.out p5 n5 c5 _ (HR.out.keeps HK5.out) HRW.out).mono ?_
        rintro e w6 ⟨rfl, hk⟩
        have hb : Keeps _ w6 := hHeld.trans hk
        have HK5 := Lib.hid (HK5.out.trans hk)
        go_wp2_with fail
        refine hK.out _ _ hb (fun _ => ?_)
        clear hK K
        try simp only [Act.put, List.setIfInBounds_toArray, List.set_cons_zero, List.set_cons_succ]
        refine wpAnyH_more (S' := fun w' => Keeps w6 w') (fun _ h => hb.trans h) ?_
        clear hHeld hb hk
        have hHeld : Keeps w6 w6 := Keeps.refl _
        refine wpAnyH_take (i := 4) (v := ?vv3) (by rfl) (by kernel_rfl) (by kernel_rfl) (by kernel_rfl) (by intro _ _ _ h; exact h) (Or.inl ⟨by kernel_rfl, ?hy3⟩) (by assumption) ?rest3
        case hy3 =>
          intro w' hSw
          have hSw : Keeps _ w' := hSw
          clear hSw
          go_simp
          try with_reducible rfl
        change wpAnyH _ _ _ _ _ _ _ (Act.put _ (some 27) _) _
        try simp only [Act.put, List.setIfInBounds_toArray, List.set_cons_zero, List.set_cons_succ]
        refine wpAnyH_done (by kernel_rfl) ?_ _
        refine NoPanic.normal ?_
        have HB2 : Hid (∀ b : Bool, decide (r = bare r) = b → chk r = if b then 0 else 3) := Lib.hid (fun b hb => by
          rw [HX.out]
          by_cases h : r = bare r
          · rw [decide_eq_true h] at hb; subst hb; rw [if_pos h]; rfl
          · rw [decide_eq_false h] at hb; subst hb; rw [if_neg h]; rfl)
        generalize decide (r = bare r) = bb at *
        have HBB := Lib.hid (HB2.out bb rfl)
        cases bb with
        | true =>
          go_wp2_with fail
          go_ret
          exact ⟨(congrArg (fun n => Ending.returned (Value.int .i64 n)) HBB.out).symm, HK5.out⟩
        | false =>
          go_wp2_with fail
          go_ret
          exact ⟨(congrArg (fun n => Ending.returned (Value.int .i64 n)) HBB.out).symm, HK5.out⟩
      · have e6 : (r.kind == 6) = false := by simp [h6]
        clear k6 h6
        go_upto_region 7 with fail
        have HD := Lib.hid ((Keeps.refl w2).drew)
        refine wp_region_noPanic ?_
        refine wp_region_held_drew (S := fun w' => Keeps (w2) w') (by kernel_rfl) ((Keeps.refl _).drew) (fun _ => ?_)
        have hHeld : Keeps (w2) (w2).drew := (Keeps.refl _).drew
        refine wpAnyH_take (i := 0) (v := ?vv4) (by rfl) (by kernel_rfl) (by kernel_rfl) (by kernel_rfl) (by intro _ _ _ h; exact h) (Or.inl ⟨by kernel_rfl, ?hy4⟩) (by assumption) ?rest4
        case hy4 =>
          intro w' hSw
          have hSw : Keeps _ w' := hSw
          have h0 := keep1 hSw a0
          have h1 := keep1 hSw a1
          have h2 := keep1 hSw a2
          have h3 := keep1 hSw a3
          have h4 := keep1 hSw a4
          have h5 := keep1 hSw a5
          have h6 := keep1 hSw a6
          have h7 := keep1 hSw a7
          have h8 := keep1 hSw a8
          have h9 := keep1 hSw a9
          have h10 := keep1 hSw a10
          have h11 := keep1 hSw a11
          clear hSw
          go_simp
          try with_reducible rfl
        change wpAnyH _ _ _ _ _ _ _ (Act.put _ (some 23) _) _
        try simp only [Act.put, List.setIfInBounds_toArray, List.set_cons_zero, List.set_cons_succ]
        refine wpAnyH_take (i := 1) (v := ?vv5) (by rfl) (by kernel_rfl) (by kernel_rfl) (by kernel_rfl) (by intro _ _ _ h; exact h) (Or.inl ⟨by kernel_rfl, ?hy5⟩) (by assumption) ?rest5
        case hy5 =>
          intro w' hSw
          have hSw : Keeps _ w' := hSw
          have h0 := keep1 hSw a0
          have h1 := keep1 hSw a1
          have h2 := keep1 hSw a2
          have h3 := keep1 hSw a3
          have h4 := keep1 hSw a4
          have h5 := keep1 hSw a5
          have h6 := keep1 hSw a6
          have h7 := keep1 hSw a7
          have h8 := keep1 hSw a8
          have h9 := keep1 hSw a9
          have h10 := keep1 hSw a10
          have h11 := keep1 hSw a11
          clear hSw
          go_simp
          try with_reducible rfl
        change wpAnyH _ _ _ _ _ _ _ (Act.put _ (some 24) _) _
        try simp only [Act.put, List.setIfInBounds_toArray, List.set_cons_zero, List.set_cons_succ]
        refine wpAnyH_ready (rs := [2]) (by kernel_rfl) (by simp) ?_
        refine AllReadyH.cons (o := _) rfl (fun K hK => ?_) AllReadyH.nil
        go_simp
        refine (HB.out _ (HR.out.keeps (HK.out.trans HD.out))).mono ?_
        rintro e w5 ⟨p5, n5, c5, rfl, hrow5, hk⟩
        have hb : Keeps _ w5 := hHeld.trans hk
        have HRW := Lib.hid (hrow5.keeps hk)
        have HK5 := Lib.hid ((HK.out.trans HD.out).trans hk)
        go_wp2_with fail
        refine hK.out _ _ hb (fun _ => ?_)
        clear hK K
        try simp only [Act.put, List.setIfInBounds_toArray, List.set_cons_zero, List.set_cons_succ]
        refine wpAnyH_more (S' := fun w' => Keeps w5 w') (fun _ h => hb.trans h) ?_
        clear hHeld hb hk
        have hHeld : Keeps w5 w5 := Keeps.refl _
        refine wpAnyH_ready (rs := [3]) (by kernel_rfl) (by simp) ?_
        refine AllReadyH.cons (o := _) rfl (fun K hK => ?_) AllReadyH.nil
        go_simp
        refine (HS.out p5 n5 c5 _ (HR.out.keeps HK5.out) HRW.out).mono ?_
        rintro e w6 ⟨rfl, hk⟩
        have hb : Keeps _ w6 := hHeld.trans hk
        have HK5 := Lib.hid (HK5.out.trans hk)
        go_wp2_with fail
        refine hK.out _ _ hb (fun _ => ?_)
        clear hK K
        try simp only [Act.put, List.setIfInBounds_toArray, List.set_cons_zero, List.set_cons_succ]
        refine wpAnyH_more (S' := fun w' => Keeps w6 w') (fun _ h => hb.trans h) ?_
        clear hHeld hb hk
        have hHeld : Keeps w6 w6 := Keeps.refl _
        refine wpAnyH_take (i := 4) (v := ?vv6) (by rfl) (by kernel_rfl) (by kernel_rfl) (by kernel_rfl) (by intro _ _ _ h; exact h) (Or.inl ⟨by kernel_rfl, ?hy6⟩) (by assumption) ?rest6
        case hy6 =>
          intro w' hSw
          have hSw : Keeps _ w' := hSw
          clear hSw
          go_simp
          try with_reducible rfl
        change wpAnyH _ _ _ _ _ _ _ (Act.put _ (some 27) _) _
        try simp only [Act.put, List.setIfInBounds_toArray, List.set_cons_zero, List.set_cons_succ]
        refine wpAnyH_done (by kernel_rfl) ?_ _
        refine NoPanic.normal ?_
        have HB2 : Hid (∀ b : Bool, decide (r = bare r) = b → chk r = if b then 0 else 3) := Lib.hid (fun b hb => by
          rw [HX.out]
          by_cases h : r = bare r
          · rw [decide_eq_true h] at hb; subst hb; rw [if_pos h]; rfl
          · rw [decide_eq_false h] at hb; subst hb; rw [if_neg h]; rfl)
        generalize decide (r = bare r) = bb at *
        have HBB := Lib.hid (HB2.out bb rfl)
        cases bb with
        | true =>
          go_wp2_with fail
          go_ret
          exact ⟨(congrArg (fun n => Ending.returned (Value.int .i64 n)) HBB.out).symm, HK5.out⟩
        | false =>
          go_wp2_with fail
          go_ret
          exact ⟨(congrArg (fun n => Ending.returned (Value.int .i64 n)) HBB.out).symm, HK5.out⟩
end Rcd
end Go.Proofs.Ytohchhgheeolpaa
