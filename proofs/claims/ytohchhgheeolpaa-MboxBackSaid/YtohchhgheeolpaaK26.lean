/- Several texts in one: RecRef, RecRef2, RecRef3, MboxTake, MboxFew, MboxAwake, MboxMakes. -/
import Derived.Test.YtohchhgheeolpaaRecPay
import Derived.Test.YtohchhgheeolpaaMid
import Derived.Test.YtohchhgheeolpaaFrameRef
import Derived.Test.YtohchhgheeolpaaK21
import Derived.Test.YtohchhgheeolpaaK16
import Derived.Test.YtohchhgheeolpaaMboxAdd
/- The reference's in, Same, within, bare, Check. -/
namespace Go.Proofs.Ytohchhgheeolpaa
open Go.RowKit
namespace Rcd
open Oct Frm

theorem in_any (n lo hi : Int) (w : World) : Calls Try.prog 223 #[.int .i64 n, .int .i64 lo, .int .i64 hi] w fun e w' => e = .returned (.bool (decide (lo ≤ n) && decide (n ≤ hi))) ∧ w = w' := by
  by_cases h1 : lo ≤ n
  · have h1' : decide (lo ≤ n) = true := decide_eq_true h1
    clear h1
    go_enter Try.func223, Try.ntmps223
    go_wp2_with fail
    go_ret
    exact ⟨congrArg (fun b => Ending.returned (Value.bool b)) (by rw [h1']; rfl), rfl⟩
  · have h1' : decide (lo ≤ n) = false := decide_eq_false h1
    clear h1
    go_enter Try.func223, Try.ntmps223
    go_wp2_with fail
    go_ret
    exact ⟨congrArg (fun b => Ending.returned (Value.bool b)) (by rw [h1']; rfl), rfl⟩

set_option maxRecDepth 100000 in
set_option maxHeartbeats 2000000 in
theorem rSame_any (r s : Rec) (v u : Value) (w : World) (hr : Row w v (r.data.map u8v)) (hs : Row w u (s.data.map u8v)) :
    Calls Try.prog 194 #[.agg (recA r v), .agg (recA s u)] w fun e w' => e = .returned (.bool (decide (r = s))) ∧ Keeps w w' := by
  obtain ⟨pv, cv, rfl, -, -⟩ := hr.form
  obtain ⟨pu, cu, rfl, -, -⟩ := hs.form
  simp only [List.length_map] at hr hs ⊢
  have HR := Lib.hid hr
  have HS := Lib.hid hs
  clear hr hs
  unfold recA
  go_enter Try.func194, Try.ntmps194
  go_upto_region 1 with fail
  generalize hW : World.alloc (World.alloc w _) _ = w2
  have HK : Hid (Keeps w w2) := Lib.hid (by rw [← hW]; exact ((Keeps.refl _).alloc _).alloc _)
  have AB : Blk w2 w.heap.size 82 (recA r (.slice pv r.data.length cv)) := by rw [← hW]; exact (Blk.new _ _ _ rfl).alloc _
  have BB : Blk w2 (w.heap.size + 1) 82 (recA s (.slice pu s.data.length cu)) := by rw [← hW]; exact Blk.new _ _ _ (by rw [asz])
  clear hW
  obtain ⟨a0, a1, a2, a3, a4, a5, a6, a7, a8, a9, a10, a11⟩ := rec12 AB
  obtain ⟨b0, b1, b2, b3, b4, b5, b6, b7, b8, b9, b10, b11⟩ := rec12 BB
  clear AB BB
  have c1 := rstr_at (HR.out.keeps HK.out)
  have c2 := rstr_at (HS.out.keeps HK.out)
  go_wp2_with fail
  all_goals go_ret
  all_goals first
    | exact ⟨congrArg (fun b => Ending.returned (Value.bool b)) (decide_eq_false (by intro h; subst h; first | contradiction | simp_all)).symm, HK.out⟩
    | exact ⟨congrArg (fun b => Ending.returned (Value.bool b)) (by rw [bstr_toList, bstr_toList, Bool.eq_iff_iff, decide_eq_true_eq, rec_eq]; simp only [bne_eq_false_iff_eq] at *; simp [allA, *]), HK.out⟩
end Rcd
end Go.Proofs.Ytohchhgheeolpaa

/- The reference's within, bare, Check of records. Printed by gen_recref.py. -/
namespace Go.Proofs.Ytohchhgheeolpaa
open Go.RowKit
namespace Rcd
open Oct Frm

set_option maxRecDepth 100000 in
set_option maxHeartbeats 2000000 in
theorem within_any (r : Rec) (v : Value) (w : World) (hr : Row w v (r.data.map u8v)) (hk : 1 ≤ r.kind ∧ r.kind ≤ 6) :
    Calls Try.prog 193 #[.agg (recA r v)] w fun e w' => e = .returned (.bool (within r)) ∧ Keeps w w' := by
  obtain ⟨pv, cv, rfl, -, -⟩ := hr.form
  have hnl : (List.map u8v r.data).length = r.data.length := by simp
  rw [hnl] at hr ⊢
  clear hnl
  have HR := Lib.hid hr
  clear hr
  unfold recA
  go_enter Try.func193, Try.ntmps193
  go_upto_region 1 with fail
  generalize hW : World.alloc w _ = w1
  have HK := Lib.hid (show Keeps w w1 from by rw [← hW]; exact (Keeps.refl _).alloc _)
  have HA := Lib.hid (show Blk w1 w.heap.size 82 (recA r (.slice pv r.data.length cv)) from by rw [← hW]; exact Blk.new _ _ _ rfl)
  clear hW
  obtain ⟨Q, hQ⟩ : ∃ Q, Q = w.heap.size := ⟨_, rfl⟩
  rw [← hQ] at HA ⊢
  have HQ := Lib.hid hQ
  clear hQ
  obtain ⟨a0, a1, a2, a3, a4, a5, a6, a7, a8, a9, a10, a11⟩ := rec12 HA.out

  by_cases k1 : r.kind = 1
  · have HW : Hid (within r = ((decide (1 ≤ r.user) && decide (r.user ≤ 999)) && ((decide (1 ≤ r.seq) && decide (r.seq ≤ 2147483648)) && ((decide (1 ≤ r.next) && decide (r.next ≤ 2147483649)) && (decide (0 ≤ r.base) && decide (r.base ≤ 2147483648)))))) := Lib.hid (by unfold within partsL; rw [k1]; simp [okP, fld, pUid, pFlags, pBody, pNext])
    have e1 : (r.kind == 1) = true := by simp [k1]
    clear hk k1
    have C0 := Lib.hid (fun w => in_any r.user 1 999 w)
    have C1 := Lib.hid (fun w => in_any r.seq 1 2147483648 w)
    have C2 := Lib.hid (fun w => in_any r.next 1 2147483649 w)
    have C3 := Lib.hid (fun w => in_any r.base 0 2147483648 w)
    generalize (decide (1 ≤ r.user) && decide (r.user ≤ 999)) = b0 at *
    generalize (decide (1 ≤ r.seq) && decide (r.seq ≤ 2147483648)) = b1 at *
    generalize (decide (1 ≤ r.next) && decide (r.next ≤ 2147483649)) = b2 at *
    generalize (decide (0 ≤ r.base) && decide (r.base ≤ 2147483648)) = b3 at *
    go_wp2_with fail
    refine (C0.out _).mono ?_
    rintro e w' ⟨rfl, rfl⟩
    cases b0 with
    | false =>
      go_wp2_with fail
      go_ret
      exact ⟨(congrArg (fun b => Ending.returned (Value.bool b)) HW.out).symm, HK.out⟩
    | true =>
      go_wp2_with fail
      refine (C1.out _).mono ?_
      rintro e w' ⟨rfl, rfl⟩
      cases b1 with
      | false =>
        go_wp2_with fail
        go_ret
        exact ⟨(congrArg (fun b => Ending.returned (Value.bool b)) HW.out).symm, HK.out⟩
      | true =>
        go_wp2_with fail
        refine (C2.out _).mono ?_
        rintro e w' ⟨rfl, rfl⟩
        cases b2 with
        | false =>
          go_wp2_with fail
          go_ret
          exact ⟨(congrArg (fun b => Ending.returned (Value.bool b)) HW.out).symm, HK.out⟩
        | true =>
          go_wp2_with fail
          refine (C3.out _).mono ?_
          rintro e w' ⟨rfl, rfl⟩
          cases b3 with
          | false =>
            go_wp2_with fail
            go_ret
            exact ⟨(congrArg (fun b => Ending.returned (Value.bool b)) HW.out).symm, HK.out⟩
          | true =>
            go_wp2_with fail
            go_ret
            exact ⟨(congrArg (fun b => Ending.returned (Value.bool b)) HW.out).symm, HK.out⟩
  by_cases k2 : r.kind = 2
  · have HW : Hid (within r = ((decide (1 ≤ r.uid) && decide (r.uid ≤ 2147483648)) && ((decide (0 ≤ r.time) && decide (r.time ≤ 4503599627370496)) && ((decide (0 ≤ r.flags) && decide (r.flags ≤ 31)) && ((decide (1 ≤ r.body) && decide (r.body ≤ 2147483648)) && ((decide (0 ≤ r.size) && decide (r.size ≤ 32768)) && (decide (0 ≤ r.origin) && decide (r.origin ≤ 9007199254740992)))))))) := Lib.hid (by unfold within partsL; rw [k2]; simp [okP, fld, pUid, pFlags, pBody, pNext])
    have e1 : (r.kind == 1) = false := by simp [k1]
    have e2 : (r.kind == 2) = true := by simp [k2]
    clear hk k1 k2
    have C0 := Lib.hid (fun w => in_any r.uid 1 2147483648 w)
    have C1 := Lib.hid (fun w => in_any r.time 0 4503599627370496 w)
    have C2 := Lib.hid (fun w => in_any r.flags 0 31 w)
    have C3 := Lib.hid (fun w => in_any r.body 1 2147483648 w)
    have C4 := Lib.hid (fun w => in_any r.size 0 32768 w)
    have C5 := Lib.hid (fun w => in_any r.origin 0 9007199254740992 w)
    generalize (decide (1 ≤ r.uid) && decide (r.uid ≤ 2147483648)) = b0 at *
    generalize (decide (0 ≤ r.time) && decide (r.time ≤ 4503599627370496)) = b1 at *
    generalize (decide (0 ≤ r.flags) && decide (r.flags ≤ 31)) = b2 at *
    generalize (decide (1 ≤ r.body) && decide (r.body ≤ 2147483648)) = b3 at *
    generalize (decide (0 ≤ r.size) && decide (r.size ≤ 32768)) = b4 at *
    generalize (decide (0 ≤ r.origin) && decide (r.origin ≤ 9007199254740992)) = b5 at *
    go_wp2_with fail
    refine (C0.out _).mono ?_
    rintro e w' ⟨rfl, rfl⟩
    cases b0 with
    | false =>
      go_wp2_with fail
      go_ret
      exact ⟨(congrArg (fun b => Ending.returned (Value.bool b)) HW.out).symm, HK.out⟩
    | true =>
      go_wp2_with fail
      refine (C1.out _).mono ?_
      rintro e w' ⟨rfl, rfl⟩
      cases b1 with
      | false =>
        go_wp2_with fail
        go_ret
        exact ⟨(congrArg (fun b => Ending.returned (Value.bool b)) HW.out).symm, HK.out⟩
      | true =>
        go_wp2_with fail
        refine (C2.out _).mono ?_
        rintro e w' ⟨rfl, rfl⟩
        cases b2 with
        | false =>
          go_wp2_with fail
          go_ret
          exact ⟨(congrArg (fun b => Ending.returned (Value.bool b)) HW.out).symm, HK.out⟩
        | true =>
          go_wp2_with fail
          refine (C3.out _).mono ?_
          rintro e w' ⟨rfl, rfl⟩
          cases b3 with
          | false =>
            go_wp2_with fail
            go_ret
            exact ⟨(congrArg (fun b => Ending.returned (Value.bool b)) HW.out).symm, HK.out⟩
          | true =>
            go_wp2_with fail
            refine (C4.out _).mono ?_
            rintro e w' ⟨rfl, rfl⟩
            cases b4 with
            | false =>
              go_wp2_with fail
              go_ret
              exact ⟨(congrArg (fun b => Ending.returned (Value.bool b)) HW.out).symm, HK.out⟩
            | true =>
              go_wp2_with fail
              refine (C5.out _).mono ?_
              rintro e w' ⟨rfl, rfl⟩
              cases b5 with
              | false =>
                go_wp2_with fail
                go_ret
                exact ⟨(congrArg (fun b => Ending.returned (Value.bool b)) HW.out).symm, HK.out⟩
              | true =>
                go_wp2_with fail
                go_ret
                exact ⟨(congrArg (fun b => Ending.returned (Value.bool b)) HW.out).symm, HK.out⟩
  by_cases k3 : r.kind = 3
  · have HW : Hid (within r = (decide (1 ≤ r.uid) && decide (r.uid ≤ 2147483648))) := Lib.hid (by unfold within partsL; rw [k3]; simp [okP, fld, pUid, pFlags, pBody, pNext])
    have e1 : (r.kind == 1) = false := by simp [k1]
    have e2 : (r.kind == 2) = false := by simp [k2]
    have e3 : (r.kind == 3) = true := by simp [k3]
    clear hk k1 k2 k3
    have C0 := Lib.hid (fun w => in_any r.uid 1 2147483648 w)
    generalize (decide (1 ≤ r.uid) && decide (r.uid ≤ 2147483648)) = b0 at *
    go_wp2_with fail
    refine (C0.out _).mono ?_
    rintro e w' ⟨rfl, rfl⟩
    cases b0 with
    | false =>
      go_wp2_with fail
      go_ret
      exact ⟨(congrArg (fun b => Ending.returned (Value.bool b)) HW.out).symm, HK.out⟩
    | true =>
      go_wp2_with fail
      go_ret
      exact ⟨(congrArg (fun b => Ending.returned (Value.bool b)) HW.out).symm, HK.out⟩
  by_cases k4 : r.kind = 4
  · have HW : Hid (within r = ((decide (1 ≤ r.uid) && decide (r.uid ≤ 2147483648)) && (decide (0 ≤ r.flags) && decide (r.flags ≤ 31)))) := Lib.hid (by unfold within partsL; rw [k4]; simp [okP, fld, pUid, pFlags, pBody, pNext])
    have e1 : (r.kind == 1) = false := by simp [k1]
    have e2 : (r.kind == 2) = false := by simp [k2]
    have e3 : (r.kind == 3) = false := by simp [k3]
    have e4 : (r.kind == 4) = true := by simp [k4]
    clear hk k1 k2 k3 k4
    have C0 := Lib.hid (fun w => in_any r.uid 1 2147483648 w)
    have C1 := Lib.hid (fun w => in_any r.flags 0 31 w)
    generalize (decide (1 ≤ r.uid) && decide (r.uid ≤ 2147483648)) = b0 at *
    generalize (decide (0 ≤ r.flags) && decide (r.flags ≤ 31)) = b1 at *
    go_wp2_with fail
    refine (C0.out _).mono ?_
    rintro e w' ⟨rfl, rfl⟩
    cases b0 with
    | false =>
      go_wp2_with fail
      go_ret
      exact ⟨(congrArg (fun b => Ending.returned (Value.bool b)) HW.out).symm, HK.out⟩
    | true =>
      go_wp2_with fail
      refine (C1.out _).mono ?_
      rintro e w' ⟨rfl, rfl⟩
      cases b1 with
      | false =>
        go_wp2_with fail
        go_ret
        exact ⟨(congrArg (fun b => Ending.returned (Value.bool b)) HW.out).symm, HK.out⟩
      | true =>
        go_wp2_with fail
        go_ret
        exact ⟨(congrArg (fun b => Ending.returned (Value.bool b)) HW.out).symm, HK.out⟩
  by_cases k5 : r.kind = 5
  · have HW : Hid (within r = (decide (1 ≤ r.next) && decide (r.next ≤ 2147483649))) := Lib.hid (by unfold within partsL; rw [k5]; simp [okP, fld, pUid, pFlags, pBody, pNext])
    have e1 : (r.kind == 1) = false := by simp [k1]
    have e2 : (r.kind == 2) = false := by simp [k2]
    have e3 : (r.kind == 3) = false := by simp [k3]
    have e4 : (r.kind == 4) = false := by simp [k4]
    have e5 : (r.kind == 5) = true := by simp [k5]
    clear hk k1 k2 k3 k4 k5
    have C0 := Lib.hid (fun w => in_any r.next 1 2147483649 w)
    generalize (decide (1 ≤ r.next) && decide (r.next ≤ 2147483649)) = b0 at *
    go_wp2_with fail
    refine (C0.out _).mono ?_
    rintro e w' ⟨rfl, rfl⟩
    cases b0 with
    | false =>
      go_wp2_with fail
      go_ret
      exact ⟨(congrArg (fun b => Ending.returned (Value.bool b)) HW.out).symm, HK.out⟩
    | true =>
      go_wp2_with fail
      go_ret
      exact ⟨(congrArg (fun b => Ending.returned (Value.bool b)) HW.out).symm, HK.out⟩
  have k6 : r.kind = 6 := by omega
  have HW : Hid (within r = (decide (1 ≤ r.body) && decide (r.body ≤ 2147483648))) := Lib.hid (by unfold within partsL; rw [k6]; simp [okP, fld, pUid, pFlags, pBody, pNext])
  have e1 : (r.kind == 1) = false := by simp [k1]
  have e2 : (r.kind == 2) = false := by simp [k2]
  have e3 : (r.kind == 3) = false := by simp [k3]
  have e4 : (r.kind == 4) = false := by simp [k4]
  have e5 : (r.kind == 5) = false := by simp [k5]
  clear hk k1 k2 k3 k4 k5 k6
  have C0 := Lib.hid (fun w => in_any r.body 1 2147483648 w)
  generalize (decide (1 ≤ r.body) && decide (r.body ≤ 2147483648)) = b0 at *
  go_wp2_with fail
  refine (C0.out _).mono ?_
  rintro e w' ⟨rfl, rfl⟩
  cases b0 with
  | false =>
    go_wp2_with fail
    go_ret
    exact ⟨(congrArg (fun b => Ending.returned (Value.bool b)) HW.out).symm, HK.out⟩
  | true =>
    go_wp2_with fail
    go_ret
    exact ⟨(congrArg (fun b => Ending.returned (Value.bool b)) HW.out).symm, HK.out⟩

set_option maxRecDepth 100000 in
set_option maxHeartbeats 2000000 in
theorem rBare_any (r : Rec) (v : Value) (w : World) (hr : Row w v (r.data.map u8v)) :
    Calls Try.prog 195 #[.agg (recA r v)] w fun e w' => ∃ p n c, e = .returned (.agg (recA (bare r) (.slice p n c))) ∧ Row w (.slice p n c) ((bare r).data.map u8v) ∧ Keeps w w' := by
  obtain ⟨pv, cv, rfl, -, -⟩ := hr.form
  have hnl : (List.map u8v r.data).length = r.data.length := by simp
  rw [hnl] at hr ⊢
  clear hnl
  have HR := Lib.hid hr
  clear hr
  unfold recA
  go_enter Try.func195, Try.ntmps195
  go_upto_region 1 with fail
  generalize hW : World.alloc (World.alloc w _) _ = w1
  have HK := Lib.hid (show Keeps w w1 from by rw [← hW]; exact ((Keeps.refl _).alloc _).alloc _)
  have HA := Lib.hid (show Blk w1 w.heap.size 82 (recA r (.slice pv r.data.length cv)) from by rw [← hW]; exact (Blk.new _ _ _ rfl).alloc _)
  have HZ := Lib.hid (show Blk w1 (w.heap.size + 1) 82 (recA ⟨0, 0, 0, 0, 0, 0, 0, 0, 0, 0, 0, []⟩ (.slice none 0 0)) from by rw [← hW]; exact Blk.new _ _ _ (by rw [asz]))
  clear hW
  obtain ⟨Q, hQ⟩ : ∃ Q, Q = w.heap.size := ⟨_, rfl⟩
  rw [← hQ] at HA HZ ⊢
  have HQ := Lib.hid hQ
  clear hQ
  obtain ⟨a0, a1, a2, a3, a4, a5, a6, a7, a8, a9, a10, a11⟩ := rec12 HA.out

  by_cases k1 : r.kind = 1
  · have HB : Hid (bare r = ⟨1, r.user, r.seq, r.next, r.base, 0, 0, 0, 0, 0, 0, []⟩) := Lib.hid (by unfold bare; rw [if_pos k1])
    have e1 : (r.kind == 1) = true := by simp [k1]
    clear k1
    go_wp2_with (refine wpList_st (ds := recA ⟨1, r.user, r.seq, r.next, r.base, 0, 0, 0, 0, 0, 0, []⟩ (.slice none 0 0)) rfl recM HZ.out rfl (recA_one _ _ _ _) _ _ rfl rfl rfl rfl ?_; intro w6 hB6 hM6)
    have HLd := Lib.hid (ld_run (P := Try.prog) recM hB6)
    have HX := Lib.hid (hM6.keeps HK.out (fun x hx => by have := HQ.out; omega))
    clear hB6 hM6
    exact bodyPost_ret (v := .agg (recA ⟨1, r.user, r.seq, r.next, r.base, 0, 0, 0, 0, 0, 0, []⟩ (.slice none 0 0))) (by simp [results, Try.results195, Sem.run_bind, Sem.run_pure, Result.andThen_ok, Act.put, asAddr, HLd.out]) rfl ⟨none, 0, 0, (congrArg (fun x => Ending.returned (Value.agg (recA x (.slice none 0 0)))) HB.out).symm, (by rw [HB.out]; exact row_nil _), HX.out⟩
  by_cases k2 : r.kind = 2
  · have HB : Hid (bare r = ⟨2, 0, 0, 0, 0, r.uid, r.time, r.flags, r.body, r.size, r.origin, []⟩) := Lib.hid (by unfold bare; rw [if_neg k1]; rw [if_pos k2])
    have e1 : (r.kind == 1) = false := by simp [k1]
    have e2 : (r.kind == 2) = true := by simp [k2]
    clear k1 k2
    go_wp2_with (refine wpList_st (ds := recA ⟨2, 0, 0, 0, 0, r.uid, r.time, r.flags, r.body, r.size, r.origin, []⟩ (.slice none 0 0)) rfl recM HZ.out rfl (recA_one _ _ _ _) _ _ rfl rfl rfl rfl ?_; intro w6 hB6 hM6)
    have HLd := Lib.hid (ld_run (P := Try.prog) recM hB6)
    have HX := Lib.hid (hM6.keeps HK.out (fun x hx => by have := HQ.out; omega))
    clear hB6 hM6
    exact bodyPost_ret (v := .agg (recA ⟨2, 0, 0, 0, 0, r.uid, r.time, r.flags, r.body, r.size, r.origin, []⟩ (.slice none 0 0))) (by simp [results, Try.results195, Sem.run_bind, Sem.run_pure, Result.andThen_ok, Act.put, asAddr, HLd.out]) rfl ⟨none, 0, 0, (congrArg (fun x => Ending.returned (Value.agg (recA x (.slice none 0 0)))) HB.out).symm, (by rw [HB.out]; exact row_nil _), HX.out⟩
  by_cases k3 : r.kind = 3
  · have HB : Hid (bare r = ⟨3, 0, 0, 0, 0, r.uid, 0, 0, 0, 0, 0, []⟩) := Lib.hid (by unfold bare; rw [if_neg k1]; rw [if_neg k2]; rw [if_pos k3])
    have e1 : (r.kind == 1) = false := by simp [k1]
    have e2 : (r.kind == 2) = false := by simp [k2]
    have e3 : (r.kind == 3) = true := by simp [k3]
    clear k1 k2 k3
    go_wp2_with (refine wpList_st (ds := recA ⟨3, 0, 0, 0, 0, r.uid, 0, 0, 0, 0, 0, []⟩ (.slice none 0 0)) rfl recM HZ.out rfl (recA_one _ _ _ _) _ _ rfl rfl rfl rfl ?_; intro w6 hB6 hM6)
    have HLd := Lib.hid (ld_run (P := Try.prog) recM hB6)
    have HX := Lib.hid (hM6.keeps HK.out (fun x hx => by have := HQ.out; omega))
    clear hB6 hM6
    exact bodyPost_ret (v := .agg (recA ⟨3, 0, 0, 0, 0, r.uid, 0, 0, 0, 0, 0, []⟩ (.slice none 0 0))) (by simp [results, Try.results195, Sem.run_bind, Sem.run_pure, Result.andThen_ok, Act.put, asAddr, HLd.out]) rfl ⟨none, 0, 0, (congrArg (fun x => Ending.returned (Value.agg (recA x (.slice none 0 0)))) HB.out).symm, (by rw [HB.out]; exact row_nil _), HX.out⟩
  by_cases k4 : r.kind = 4
  · have HB : Hid (bare r = ⟨4, 0, 0, 0, 0, r.uid, 0, r.flags, 0, 0, 0, []⟩) := Lib.hid (by unfold bare; rw [if_neg k1]; rw [if_neg k2]; rw [if_neg k3]; rw [if_pos k4])
    have e1 : (r.kind == 1) = false := by simp [k1]
    have e2 : (r.kind == 2) = false := by simp [k2]
    have e3 : (r.kind == 3) = false := by simp [k3]
    have e4 : (r.kind == 4) = true := by simp [k4]
    clear k1 k2 k3 k4
    go_wp2_with (refine wpList_st (ds := recA ⟨4, 0, 0, 0, 0, r.uid, 0, r.flags, 0, 0, 0, []⟩ (.slice none 0 0)) rfl recM HZ.out rfl (recA_one _ _ _ _) _ _ rfl rfl rfl rfl ?_; intro w6 hB6 hM6)
    have HLd := Lib.hid (ld_run (P := Try.prog) recM hB6)
    have HX := Lib.hid (hM6.keeps HK.out (fun x hx => by have := HQ.out; omega))
    clear hB6 hM6
    exact bodyPost_ret (v := .agg (recA ⟨4, 0, 0, 0, 0, r.uid, 0, r.flags, 0, 0, 0, []⟩ (.slice none 0 0))) (by simp [results, Try.results195, Sem.run_bind, Sem.run_pure, Result.andThen_ok, Act.put, asAddr, HLd.out]) rfl ⟨none, 0, 0, (congrArg (fun x => Ending.returned (Value.agg (recA x (.slice none 0 0)))) HB.out).symm, (by rw [HB.out]; exact row_nil _), HX.out⟩
  by_cases k5 : r.kind = 5
  · have HB : Hid (bare r = ⟨5, 0, 0, r.next, 0, 0, 0, 0, 0, 0, 0, []⟩) := Lib.hid (by unfold bare; rw [if_neg k1]; rw [if_neg k2]; rw [if_neg k3]; rw [if_neg k4]; rw [if_pos k5])
    have e1 : (r.kind == 1) = false := by simp [k1]
    have e2 : (r.kind == 2) = false := by simp [k2]
    have e3 : (r.kind == 3) = false := by simp [k3]
    have e4 : (r.kind == 4) = false := by simp [k4]
    have e5 : (r.kind == 5) = true := by simp [k5]
    clear k1 k2 k3 k4 k5
    go_wp2_with (refine wpList_st (ds := recA ⟨5, 0, 0, r.next, 0, 0, 0, 0, 0, 0, 0, []⟩ (.slice none 0 0)) rfl recM HZ.out rfl (recA_one _ _ _ _) _ _ rfl rfl rfl rfl ?_; intro w6 hB6 hM6)
    have HLd := Lib.hid (ld_run (P := Try.prog) recM hB6)
    have HX := Lib.hid (hM6.keeps HK.out (fun x hx => by have := HQ.out; omega))
    clear hB6 hM6
    exact bodyPost_ret (v := .agg (recA ⟨5, 0, 0, r.next, 0, 0, 0, 0, 0, 0, 0, []⟩ (.slice none 0 0))) (by simp [results, Try.results195, Sem.run_bind, Sem.run_pure, Result.andThen_ok, Act.put, asAddr, HLd.out]) rfl ⟨none, 0, 0, (congrArg (fun x => Ending.returned (Value.agg (recA x (.slice none 0 0)))) HB.out).symm, (by rw [HB.out]; exact row_nil _), HX.out⟩
  have k6 : True := trivial
  have HB : Hid (bare r = ⟨6, 0, 0, 0, 0, 0, 0, 0, r.body, 0, 0, r.data⟩) := Lib.hid (by unfold bare; rw [if_neg k1]; rw [if_neg k2]; rw [if_neg k3]; rw [if_neg k4]; rw [if_neg k5])
  have e1 : (r.kind == 1) = false := by simp [k1]
  have e2 : (r.kind == 2) = false := by simp [k2]
  have e3 : (r.kind == 3) = false := by simp [k3]
  have e4 : (r.kind == 4) = false := by simp [k4]
  have e5 : (r.kind == 5) = false := by simp [k5]
  clear k1 k2 k3 k4 k5 k6
  go_wp2_with (refine wpList_st (ds := recA ⟨6, 0, 0, 0, 0, 0, 0, 0, r.body, 0, 0, r.data⟩ (.slice pv r.data.length cv)) rfl recM HZ.out rfl (recA_one _ _ _ _) _ _ rfl rfl rfl rfl ?_; intro w6 hB6 hM6)
  have HLd := Lib.hid (ld_run (P := Try.prog) recM hB6)
  have HX := Lib.hid (hM6.keeps HK.out (fun x hx => by have := HQ.out; omega))
  clear hB6 hM6
  exact bodyPost_ret (v := .agg (recA ⟨6, 0, 0, 0, 0, 0, 0, 0, r.body, 0, 0, r.data⟩ (.slice pv r.data.length cv))) (by simp [results, Try.results195, Sem.run_bind, Sem.run_pure, Result.andThen_ok, Act.put, asAddr, HLd.out]) rfl ⟨pv, r.data.length, cv, (congrArg (fun x => Ending.returned (Value.agg (recA x (.slice pv r.data.length cv)))) HB.out).symm, (by rw [HB.out]; exact HR.out), HX.out⟩

set_option maxRecDepth 100000 in
set_option maxHeartbeats 2000000 in
theorem rCheck_any (r : Rec) (v : Value) (w : World) (hr : Row w v (r.data.map u8v)) :
    Calls Try.prog 139 #[.agg (recA r v)] w fun e w' => e = .returned (.int .i64 (chk r)) ∧ Keeps w w' := by
  obtain ⟨pv, cv, rfl, -, -⟩ := hr.form
  have hnl : (List.map u8v r.data).length = r.data.length := by simp
  rw [hnl] at hr ⊢
  clear hnl
  have HR := Lib.hid hr
  clear hr
  have HW := Lib.hid (fun w h k => within_any r (.slice pv r.data.length cv) w h k)
  have HB := Lib.hid (fun w h => rBare_any r (.slice pv r.data.length cv) w h)
  have HS := Lib.hid (fun p n c w h1 h2 => rSame_any r (bare r) (.slice pv r.data.length cv) (.slice p n c) w h1 h2)
  unfold recA
  go_enter Try.func139, Try.ntmps139
  go_upto_region 1 with fail
  generalize hW : World.alloc w _ = w1
  have HK := Lib.hid (show Keeps w w1 from by rw [← hW]; exact (Keeps.refl _).alloc _)
  have HA := Lib.hid (show Blk w1 w.heap.size 82 (recA r (.slice pv r.data.length cv)) from by rw [← hW]; exact Blk.new _ _ _ rfl)
  clear hW
  obtain ⟨Q, hQ⟩ : ∃ Q, Q = w.heap.size := ⟨_, rfl⟩
  rw [← hQ] at HA ⊢
  have HQ := Lib.hid hQ
  clear hQ
  obtain ⟨a0, a1, a2, a3, a4, a5, a6, a7, a8, a9, a10, a11⟩ := rec12 HA.out
  by_cases k1 : r.kind < 1
  · have HX : Hid (chk r = 16) := Lib.hid (if_pos (.inl k1))
    have e1 : decide (r.kind < 1) = true := decide_eq_true k1
    clear k1
    go_wp2_with fail
    go_ret
    exact ⟨(congrArg (fun n => Ending.returned (Value.int .i64 n)) HX.out).symm, HK.out⟩
  by_cases k2 : 6 < r.kind
  · have HX : Hid (chk r = 16) := Lib.hid (if_pos (.inr k2))
    have e1 : decide (r.kind < 1) = false := decide_eq_false k1
    have e2 : decide (6 < r.kind) = true := decide_eq_true k2
    clear k1 k2
    go_wp2_with fail
    go_ret
    exact ⟨(congrArg (fun n => Ending.returned (Value.int .i64 n)) HX.out).symm, HK.out⟩
  have e1 : decide (r.kind < 1) = false := decide_eq_false k1
  have e2 : decide (6 < r.kind) = false := decide_eq_false k2
  have HX0 : Hid (chk r = if within r = false then 1 else if r.kind = 6 ∧ 32768 < r.data.length then 4 else if r = bare r then 0 else 3) := Lib.hid (by unfold chk; rw [if_neg (by omega)])
  have HWC := Lib.hid (HW.out w1 (HR.out.keeps HK.out) ⟨by omega, by omega⟩)
  clear k1 k2 HW
  go_wp2_with fail
  refine HWC.out.mono ?_
  rintro e w2 ⟨rfl, hk2⟩
  have HK := Lib.hid (HK.out.trans hk2)
  have HA := Lib.hid (HA.out.keeps hk2)
  clear HWC hk2 a0 a1 a2 a3 a4 a5 a6 a7 a8 a9 a10 a11
  obtain ⟨a0, a1, a2, a3, a4, a5, a6, a7, a8, a9, a10, a11⟩ := rec12 HA.out
  generalize within r = wi at *
  cases wi with
  | false =>
    go_wp2_with fail
    go_ret
    exact ⟨(congrArg (fun n => Ending.returned (Value.int .i64 n)) (HX0.out.trans (if_pos (by simp)))).symm, HK.out⟩
  | true =>
    have HX1 : Hid (chk r = if r.kind = 6 ∧ 32768 < r.data.length then 4 else if r = bare r then 0 else 3) := Lib.hid (HX0.out.trans (if_neg (by simp)))
    clear HX0
    by_cases k6 : r.kind = 6 ∧ 32768 < r.data.length
    · have HX : Hid (chk r = 4) := Lib.hid (HX1.out.trans (if_pos k6))
      have e6 : (r.kind == 6) = true := by simp [k6.1]
      have e7 : decide (32768 < (r.data.length : Int)) = true := decide_eq_true (by omega)
      clear k6 HX1
      go_wp2_with fail
      go_ret
      exact ⟨(congrArg (fun n => Ending.returned (Value.int .i64 n)) HX.out).symm, HK.out⟩
    · have HX : Hid (chk r = if r = bare r then 0 else 3) := Lib.hid (HX1.out.trans (if_neg k6))
      clear HX1

      by_cases h6 : r.kind = 6
      · have e6 : (r.kind == 6) = true := by simp [h6]
        have e7 : decide (32768 < (r.data.length : Int)) = false := decide_eq_false (by omega)
        clear k6 h6
        go_upto_region 7 with fail
        have HD := Lib.hid ((Keeps.refl w2).drew)
        refine wp_region_noPanic ?_
        refine wp_region_held_drew (S := fun w' => Keeps (w2) w') (by kernel_rfl) ((Keeps.refl _).drew) (fun _ => ?_)
        have hHeld : Keeps (w2) (w2).drew := (Keeps.refl _).drew
        refine wpAnyH_take (i := 0) (v := ?vv1) (by rfl) (by kernel_rfl) (by kernel_rfl) (by kernel_rfl) (by intro _ _ _ h; exact h) (Or.inl ⟨by kernel_rfl, ?hy1⟩) (by assumption) ?rest1
        case hy1 =>
          intro w' hSw
          have hSw : Keeps _ w' := hSw
          have h0 := keep1 hSw a0
          have h1 := keep1 hSw a1
          have h2 := keep1 hSw a2
          have h3 := keep1 hSw a3
          have h4 := keep1 hSw a4
          have h5 := keep1 hSw a5
          have h6 := keep1 hSw a6
          have h7 := keep1 hSw a7
          have h8 := keep1 hSw a8
          have h9 := keep1 hSw a9
          have h10 := keep1 hSw a10
          have h11 := keep1 hSw a11
          clear hSw
          go_simp
          try with_reducible rfl
        change wpAnyH _ _ _ _ _ _ _ (Act.put _ (some 23) _) _
        try simp only [Act.put, List.setIfInBounds_toArray, List.set_cons_zero, List.set_cons_succ]
        refine wpAnyH_take (i := 1) (v := ?vv2) (by rfl) (by kernel_rfl) (by kernel_rfl) (by kernel_rfl) (by intro _ _ _ h; exact h) (Or.inl ⟨by kernel_rfl, ?hy2⟩) (by assumption) ?rest2
        case hy2 =>
          intro w' hSw
          have hSw : Keeps _ w' := hSw
          have h0 := keep1 hSw a0
          have h1 := keep1 hSw a1
          have h2 := keep1 hSw a2
          have h3 := keep1 hSw a3
          have h4 := keep1 hSw a4
          have h5 := keep1 hSw a5
          have h6 := keep1 hSw a6
          have h7 := keep1 hSw a7
          have h8 := keep1 hSw a8
          have h9 := keep1 hSw a9
          have h10 := keep1 hSw a10
          have h11 := keep1 hSw a11
          clear hSw
          go_simp
          try with_reducible rfl
        change wpAnyH _ _ _ _ _ _ _ (Act.put _ (some 24) _) _
        try simp only [Act.put, List.setIfInBounds_toArray, List.set_cons_zero, List.set_cons_succ]
        refine wpAnyH_ready (rs := [2]) (by kernel_rfl) (by simp) ?_
        refine AllReadyH.cons (o := _) rfl (fun K hK => ?_) AllReadyH.nil
        go_simp
        refine (HB.out _ (HR.out.keeps (HK.out.trans HD.out))).mono ?_
        rintro e w5 ⟨p5, n5, c5, rfl, hrow5, hk⟩
        have hb : Keeps _ w5 := hHeld.trans hk
        have HRW := Lib.hid (hrow5.keeps hk)
        have HK5 := Lib.hid ((HK.out.trans HD.out).trans hk)
        go_wp2_with fail
        refine hK.out _ _ hb (fun _ => ?_)
        clear hK K
        try simp only [Act.put, List.setIfInBounds_toArray, List.set_cons_zero, List.set_cons_succ]
        refine wpAnyH_more (S' := fun w' => Keeps w5 w') (fun _ h => hb.trans h) ?_
        clear hHeld hb hk
        have hHeld : Keeps w5 w5 := Keeps.refl _
        refine wpAnyH_ready (rs := [3]) (by kernel_rfl) (by simp) ?_
        refine AllReadyH.cons (o := _) rfl (fun K hK => ?_) AllReadyH.nil
        go_simp
        refine (HS.out p5 n5 c5 _ (HR.out.keeps HK5.out) HRW.out).mono ?_
        rintro e w6 ⟨rfl, hk⟩
        have hb : Keeps _ w6 := hHeld.trans hk
        have HK5 := Lib.hid (HK5.out.trans hk)
        go_wp2_with fail
        refine hK.out _ _ hb (fun _ => ?_)
        clear hK K
        try simp only [Act.put, List.setIfInBounds_toArray, List.set_cons_zero, List.set_cons_succ]
        refine wpAnyH_more (S' := fun w' => Keeps w6 w') (fun _ h => hb.trans h) ?_
        clear hHeld hb hk
        have hHeld : Keeps w6 w6 := Keeps.refl _
        refine wpAnyH_take (i := 4) (v := ?vv3) (by rfl) (by kernel_rfl) (by kernel_rfl) (by kernel_rfl) (by intro _ _ _ h; exact h) (Or.inl ⟨by kernel_rfl, ?hy3⟩) (by assumption) ?rest3
        case hy3 =>
          intro w' hSw
          have hSw : Keeps _ w' := hSw
          clear hSw
          go_simp
          try with_reducible rfl
        change wpAnyH _ _ _ _ _ _ _ (Act.put _ (some 27) _) _
        try simp only [Act.put, List.setIfInBounds_toArray, List.set_cons_zero, List.set_cons_succ]
        refine wpAnyH_done (by kernel_rfl) ?_ _
        refine NoPanic.normal ?_
        have HB2 : Hid (∀ b : Bool, decide (r = bare r) = b → chk r = if b then 0 else 3) := Lib.hid (fun b hb => by
          rw [HX.out]
          by_cases h : r = bare r
          · rw [decide_eq_true h] at hb; subst hb; rw [if_pos h]; rfl
          · rw [decide_eq_false h] at hb; subst hb; rw [if_neg h]; rfl)
        generalize decide (r = bare r) = bb at *
        have HBB := Lib.hid (HB2.out bb rfl)
        cases bb with
        | true =>
          go_wp2_with fail
          go_ret
          exact ⟨(congrArg (fun n => Ending.returned (Value.int .i64 n)) HBB.out).symm, HK5.out⟩
        | false =>
          go_wp2_with fail
          go_ret
          exact ⟨(congrArg (fun n => Ending.returned (Value.int .i64 n)) HBB.out).symm, HK5.out⟩
      · have e6 : (r.kind == 6) = false := by simp [h6]
        clear k6 h6
        go_upto_region 7 with fail
        have HD := Lib.hid ((Keeps.refl w2).drew)
        refine wp_region_noPanic ?_
        refine wp_region_held_drew (S := fun w' => Keeps (w2) w') (by kernel_rfl) ((Keeps.refl _).drew) (fun _ => ?_)
        have hHeld : Keeps (w2) (w2).drew := (Keeps.refl _).drew
        refine wpAnyH_take (i := 0) (v := ?vv4) (by rfl) (by kernel_rfl) (by kernel_rfl) (by kernel_rfl) (by intro _ _ _ h; exact h) (Or.inl ⟨by kernel_rfl, ?hy4⟩) (by assumption) ?rest4
        case hy4 =>
          intro w' hSw
          have hSw : Keeps _ w' := hSw
          have h0 := keep1 hSw a0
          have h1 := keep1 hSw a1
          have h2 := keep1 hSw a2
          have h3 := keep1 hSw a3
          have h4 := keep1 hSw a4
          have h5 := keep1 hSw a5
          have h6 := keep1 hSw a6
          have h7 := keep1 hSw a7
          have h8 := keep1 hSw a8
          have h9 := keep1 hSw a9
          have h10 := keep1 hSw a10
          have h11 := keep1 hSw a11
          clear hSw
          go_simp
          try with_reducible rfl
        change wpAnyH _ _ _ _ _ _ _ (Act.put _ (some 23) _) _
        try simp only [Act.put, List.setIfInBounds_toArray, List.set_cons_zero, List.set_cons_succ]
        refine wpAnyH_take (i := 1) (v := ?vv5) (by rfl) (by kernel_rfl) (by kernel_rfl) (by kernel_rfl) (by intro _ _ _ h; exact h) (Or.inl ⟨by kernel_rfl, ?hy5⟩) (by assumption) ?rest5
        case hy5 =>
          intro w' hSw
          have hSw : Keeps _ w' := hSw
          have h0 := keep1 hSw a0
          have h1 := keep1 hSw a1
          have h2 := keep1 hSw a2
          have h3 := keep1 hSw a3
          have h4 := keep1 hSw a4
          have h5 := keep1 hSw a5
          have h6 := keep1 hSw a6
          have h7 := keep1 hSw a7
          have h8 := keep1 hSw a8
          have h9 := keep1 hSw a9
          have h10 := keep1 hSw a10
          have h11 := keep1 hSw a11
          clear hSw
          go_simp
          try with_reducible rfl
        change wpAnyH _ _ _ _ _ _ _ (Act.put _ (some 24) _) _
        try simp only [Act.put, List.setIfInBounds_toArray, List.set_cons_zero, List.set_cons_succ]
        refine wpAnyH_ready (rs := [2]) (by kernel_rfl) (by simp) ?_
        refine AllReadyH.cons (o := _) rfl (fun K hK => ?_) AllReadyH.nil
        go_simp
        refine (HB.out _ (HR.out.keeps (HK.out.trans HD.out))).mono ?_
        rintro e w5 ⟨p5, n5, c5, rfl, hrow5, hk⟩
        have hb : Keeps _ w5 := hHeld.trans hk
        have HRW := Lib.hid (hrow5.keeps hk)
        have HK5 := Lib.hid ((HK.out.trans HD.out).trans hk)
        go_wp2_with fail
        refine hK.out _ _ hb (fun _ => ?_)
        clear hK K
        try simp only [Act.put, List.setIfInBounds_toArray, List.set_cons_zero, List.set_cons_succ]
        refine wpAnyH_more (S' := fun w' => Keeps w5 w') (fun _ h => hb.trans h) ?_
        clear hHeld hb hk
        have hHeld : Keeps w5 w5 := Keeps.refl _
        refine wpAnyH_ready (rs := [3]) (by kernel_rfl) (by simp) ?_
        refine AllReadyH.cons (o := _) rfl (fun K hK => ?_) AllReadyH.nil
        go_simp
        refine (HS.out p5 n5 c5 _ (HR.out.keeps HK5.out) HRW.out).mono ?_
        rintro e w6 ⟨rfl, hk⟩
        have hb : Keeps _ w6 := hHeld.trans hk
        have HK5 := Lib.hid (HK5.out.trans hk)
        go_wp2_with fail
        refine hK.out _ _ hb (fun _ => ?_)
        clear hK K
        try simp only [Act.put, List.setIfInBounds_toArray, List.set_cons_zero, List.set_cons_succ]
        refine wpAnyH_more (S' := fun w' => Keeps w6 w') (fun _ h => hb.trans h) ?_
        clear hHeld hb hk
        have hHeld : Keeps w6 w6 := Keeps.refl _
        refine wpAnyH_take (i := 4) (v := ?vv6) (by rfl) (by kernel_rfl) (by kernel_rfl) (by kernel_rfl) (by intro _ _ _ h; exact h) (Or.inl ⟨by kernel_rfl, ?hy6⟩) (by assumption) ?rest6
        case hy6 =>
          intro w' hSw
          have hSw : Keeps _ w' := hSw
          clear hSw
          go_simp
          try with_reducible rfl
        change wpAnyH _ _ _ _ _ _ _ (Act.put _ (some 27) _) _
        try simp only [Act.put, List.setIfInBounds_toArray, List.set_cons_zero, List.set_cons_succ]
        refine wpAnyH_done (by kernel_rfl) ?_ _
        refine NoPanic.normal ?_
        have HB2 : Hid (∀ b : Bool, decide (r = bare r) = b → chk r = if b then 0 else 3) := Lib.hid (fun b hb => by
          rw [HX.out]
          by_cases h : r = bare r
          · rw [decide_eq_true h] at hb; subst hb; rw [if_pos h]; rfl
          · rw [decide_eq_false h] at hb; subst hb; rw [if_neg h]; rfl)
        generalize decide (r = bare r) = bb at *
        have HBB := Lib.hid (HB2.out bb rfl)
        cases bb with
        | true =>
          go_wp2_with fail
          go_ret
          exact ⟨(congrArg (fun n => Ending.returned (Value.int .i64 n)) HBB.out).symm, HK5.out⟩
        | false =>
          go_wp2_with fail
          go_ret
          exact ⟨(congrArg (fun n => Ending.returned (Value.int .i64 n)) HBB.out).symm, HK5.out⟩
end Rcd
end Go.Proofs.Ytohchhgheeolpaa

/- The reference's Light, put, get, Payload, Frame of records. Printed by gen_recref3.py. -/
namespace Go.Proofs.Ytohchhgheeolpaa
open Go.RowKit
namespace Rcd
open Oct Frm

theorem light_any (r : Rec) (v : Value) (w : World) (hr : Row w v (r.data.map u8v)) : Calls Try.prog 132 #[.agg (recA r v)] w fun e w' => e = .returned (.bool (decide (r.data.length ≤ 1000))) ∧ Keeps w w' := by
  obtain ⟨pv, cv, rfl, -, -⟩ := hr.form
  have hnl : (List.map u8v r.data).length = r.data.length := by simp
  rw [hnl] at hr ⊢
  clear hnl hr
  unfold recA
  go_enter Try.func132, Try.ntmps132
  go_wp2_with fail
  go_ret
  exact ⟨congrArg (fun b => Ending.returned (Value.bool b)) (by rw [Bool.eq_iff_iff, decide_eq_true_eq, decide_eq_true_eq]; omega), (Keeps.refl _).alloc _⟩
/-- bytes, and an error -/
def RetRI (W : World) (l : List UInt8) (n : Int) (e : Ending) (w' : World) : Prop :=
  ∃ p c, e = .returned (.tuple #[.slice p l.length c, .int .i64 n]) ∧ Row w' (.slice p l.length c) (l.map u8v) ∧ Keeps W w'
theorem retRI {W w1 : World} {l l' : List UInt8} {n m : Int} {b k c : Nat} (hl : l = l') (hn : n = m) (hb : b = w1.heap.size) (hk : k = l'.length) (hc : c = grownCap w1 (bstr l').size 0 5) (hm : l'.length ≤ maxLen) (hK : Keeps W w1) :
    RetRI W l n (.returned (.tuple #[.slice (some ⟨b, 0, none⟩) k c, .int .i64 m])) (Lib.bytesWorld w1 5 (bstr l')) := by
  subst hl hn hk
  exact ⟨_, _, rfl, bytes_row w1 _ l hb rfl hc hm, hK.trans (bytes_keeps _ _ _)⟩
theorem fld_nat {r : Rec} {k : Int} (hok : ∀ q ∈ partsL k, okP r q = true) {q : Part} (hq : q ∈ partsL k) : ∃ n : Nat, fld r q.off = (n : Int) ∧ n < 9223372036854775808 ∧ putL n q.width = be q.width.toNat n := by
  have h := hok q hq
  obtain ⟨h1, h2, h3, h4, h5⟩ := part_ok q hq
  have hb : q.low ≤ fld r q.off ∧ fld r q.off ≤ q.high := by simpa [okP] using h
  refine ⟨(fld r q.off).toNat, by omega, by omega, ?_⟩
  exact putL_fld (by omega) ⟨h1, h2⟩ (by omega)
theorem sz_app {a b : ByteArray} {m n : Nat} (ha : a.size = m) (hb : b.size = n) : (a ++ b).size = m + n := by rw [ByteArray.size_append, ha, hb]
theorem strb (w : World) (s : ByteArray) {n : Nat} (h : s.size = n) : (convert 9 22 (.string s)).run Try.prog w = .ok (.slice (some ⟨w.heap.size, 0, none⟩) n (grownCap w n 0 5)) (Lib.bytesWorld w 5 s) := by
  subst h
  exact Lib.run_convert_string_bytes w 9 22 5 s Try.underlying9 Try.underlying22 Try.underlying5

end Rcd
end Go.Proofs.Ytohchhgheeolpaa

/- mbox.Take; ref20.Few. -/
namespace Go.Proofs.Ytohchhgheeolpaa
open Go.RowKit
namespace Mbx
open Rcd Go.Maps

theorem chk_uid {r : Rec} (h : chk r = 0) (hk : r.kind = 2 ∨ r.kind = 3 ∨ r.kind = 4) : 1 ≤ r.uid ∧ r.uid ≤ 2147483648 := by
  obtain ⟨-, hok, -⟩ := chk_zero h
  have hm : pUid ∈ partsL r.kind := by rcases hk with k | k | k <;> (rw [k]; decide)
  have := hok _ hm
  simpa [okP, pUid, fld] using this
theorem chk_org {r : Rec} (h : chk r = 0) (hk : r.kind = 2) : 0 ≤ r.origin ∧ r.origin ≤ 9007199254740992 := by
  obtain ⟨-, hok, -⟩ := chk_zero h
  have := hok ⟨8, 0, 9007199254740992, 10⟩ (by rw [hk]; decide)
  simpa [okP, fld] using this
theorem i64wf {x : Int} (h : -9223372036854775808 ≤ x ∧ x ≤ 9223372036854775807) : (Lit.int .i64 x).wf = true := by
  simp [Lit.wf, IntKind.min, IntKind.max, IntKind.signed, IntKind.bits]; omega

set_option maxRecDepth 100000 in
set_option maxHeartbeats 2000000 in
theorem take_any (w : World) {g b1 b2 n : Nat} {m : Box} (h : BoxAt w g b1 b2 n m) (hn : n < 900000) (r : Rec) (v : Value) (hr : Row w v (r.data.map u8v)) : Calls Try.prog 48 #[.pointer (some ⟨g, 0, none⟩), .agg (recA r v)] w (BoxDid w g b1 b2 (n + 2) (take m r)) := by
  obtain ⟨pv, nv, cv, rfl⟩ : ∃ p n c, v = .slice p n c := let ⟨p, c, h, _⟩ := hr.form; ⟨p, _, c, h⟩
  have HB := Lib.hid h
  have HR := Lib.hid hr
  clear h hr
  have HC := Lib.hid (fun w h => check_any r (.slice pv nv cv) w h)
  have HAD := Lib.hid (fun w (h : BoxAt w g b1 b2 n m) hu ho => add_any w h hn r (.slice pv nv cv) ⟨_, _, _, rfl⟩ hu ho)
  unfold recA
  go_enter Try.func48, Try.ntmps48
  go_upto_region 1 with fail
  generalize hW : World.alloc w _ = w1
  have HK := Lib.hid (show Keeps w w1 from by rw [← hW]; exact (Keeps.refl _).alloc _)
  have HA := Lib.hid (show Blk w1 w.heap.size 82 (recA r (.slice pv nv cv)) from by rw [← hW]; exact Blk.new _ _ _ rfl)
  clear hW
  generalize w.heap.size = Q at *
  obtain ⟨a0, a1, a2, a3, a4, a5, a6, a7, a8, a9, a10, a11⟩ := rec12 HA.out
  go_wp2_with fail
  refine (HC.out w1 (HR.out.keeps HK.out)).mono ?_
  rintro e w2 ⟨rfl, hk2⟩
  have HK := Lib.hid (HK.out.trans hk2)
  have HA := Lib.hid (HA.out.keeps hk2)
  clear hk2 a0 a1 a2 a3 a4 a5 a6 a7 a8 a9 a10 a11
  have HBX := Lib.hid (HB.out.keeps HK.out)
  have HM := Lib.hid (Mods.of_keeps (S := BFr g b1 b2) HK.out)
  have HFin : Hid (∀ (q : Box × Bool) e w', take m r = q → BoxDid w2 g b1 b2 (n + 2) q e w' → BoxDid w g b1 b2 (n + 2) (take m r) e w') := Lib.hid (fun q e w' hq h => by
    rw [hq]
    exact ⟨h.1, h.2.1, HM.out.trans h.2.2 (fun y hy _ => hy)⟩)
  obtain ⟨a0, a1, a2, a3, a4, a5, a6, a7, a8, a9, a10, a11⟩ := rec12 HA.out
  by_cases hc : chk r = 0
  case neg =>
    have hc' : (chk r != 0) = true := by simp [hc]
    have HX : Hid (take m r = (m, false)) := Lib.hid (by unfold take; rw [if_pos hc])
    clear hc
    generalize chk r = c at *
    go_wp2_with fail
    go_ret
    exact HFin.out (m, false) _ _ HX.out ⟨rfl, HBX.out.mono (by omega), Mods.refl _ _⟩
  have HT0 : Hid (take m r = if r.kind = 2 then add m r else if r.kind = 3 then gone m r.uid else if r.kind = 4 then flag m r.uid r.flags else (m, false)) := Lib.hid (by unfold take; rw [if_neg (by rw [hc]; exact fun h => h rfl)])
  have HU := Lib.hid (chk_uid hc)
  have HO := Lib.hid (chk_org hc)
  rw [hc]
  clear hc
  by_cases k2 : r.kind = 2
  · have e2 : (r.kind == 2) = true := by simp [k2]
    have HX := Lib.hid (HT0.out.trans (if_pos k2))
    have HADx := Lib.hid (HAD.out w2 HBX.out (HU.out (.inl k2)) (i64wf (by have := HO.out k2; omega)))
    clear HT0 HU HO k2
    go_wp2_with fail
    refine HADx.out.mono ?_
    rintro e w3 ⟨rfl, hb, hm⟩
    have HF := Lib.hid (HFin.out (add m r) _ w3 HX.out ⟨rfl, hb, hm⟩)
    clear hb hm
    go_wp2_with fail
    go_ret
    exact HF.out
  have e2 : (r.kind == 2) = false := by simp [k2]
  by_cases k3 : r.kind = 3
  · have e3 : (r.kind == 3) = true := by simp [k3]
    have HX := Lib.hid (HT0.out.trans ((if_neg k2).trans (if_pos k3)))
    have HADx := Lib.hid (gone_any w2 HBX.out (by omega) r.uid (i64wf (by have := HU.out (.inr (.inl k3)); omega)))
    clear HT0 HU HO k2 k3
    go_wp2_with fail
    refine HADx.out.mono ?_
    rintro e w3 ⟨rfl, hb, hm⟩
    have HF := Lib.hid (HFin.out (gone m r.uid) _ w3 HX.out ⟨rfl, hb.mono (by omega), hm⟩)
    clear hb hm
    go_wp2_with fail
    go_ret
    exact HF.out
  have e3 : (r.kind == 3) = false := by simp [k3]
  by_cases k4 : r.kind = 4
  · have e4 : (r.kind == 4) = true := by simp [k4]
    have HX := Lib.hid (HT0.out.trans ((if_neg k2).trans ((if_neg k3).trans (if_pos k4))))
    have HADx := Lib.hid (flag_any w2 HBX.out (by omega) r.uid r.flags (i64wf (by have := HU.out (.inr (.inr k4)); omega)))
    clear HT0 HU HO k2 k3 k4
    go_wp2_with fail
    refine HADx.out.mono ?_
    rintro e w3 ⟨rfl, hb, hm⟩
    have HF := Lib.hid (HFin.out (flag m r.uid r.flags) _ w3 HX.out ⟨rfl, hb.mono (by omega), hm⟩)
    clear hb hm
    go_wp2_with fail
    go_ret
    exact HF.out
  have e4 : (r.kind == 4) = false := by simp [k4]
  have HX := Lib.hid (HT0.out.trans ((if_neg k2).trans ((if_neg k3).trans (if_neg k4))))
  clear HT0 HU HO k2 k3 k4
  go_wp2_with fail
  go_ret
  exact HFin.out (m, false) _ _ HX.out ⟨rfl, HBX.out.mono (by omega), Mods.refl _ _⟩
end Mbx
end Go.Proofs.Ytohchhgheeolpaa

/- ref20.Few. -/
namespace Go.Proofs.Ytohchhgheeolpaa
open Go.RowKit
namespace Mbx
open Rcd Go.Maps

theorem rowS_rec' {w : World} {v : Value} {l : List RecX} (h : RowS w 12 v l.length (l.flatMap recC)) {j : Nat} (hj : j < l.length) : ∃ b off cap, v = .slice (some ⟨b, off, none⟩) l.length cap ∧ w.rangeAt b (off + j * 12) (recA l[j].1 l[j].2).toList := by
  obtain ⟨b, off, cap, hv, -, -, hc⟩ := h.at_ (by omega)
  refine ⟨b, off, cap, hv, fun i x hx => ?_⟩
  have hi : i < 12 := by
    have := (List.getElem?_eq_some_iff.1 hx).1
    simpa [recA] using this
  rw [Nat.add_assoc]
  refine hc.out (j * 12 + i) x ?_
  rw [rec_at hj hi]
  exact hx
theorem range_keeps' {w w' : World} {g o : Nat} {l : List Value} (h : w.rangeAt g o l) (k : Keeps w w') : w'.rangeAt g o l := fun j x hx => keep1 k (h j x hx)

set_option maxRecDepth 100000 in
set_option maxHeartbeats 2000000 in
theorem few_any (w : World) (v : Value) (l : List RecX) (n : Nat) (hn : n ≤ 1000) (r0 : RowS w 12 v l.length (l.flatMap recC)) (w0 : ∀ y ∈ l, Row w y.2 (y.1.data.map u8v)) :
    Calls Try.prog 46 #[v, .int .i64 (n : Int)] w fun e w' => ∃ b : Bool, e = .returned (.bool b) ∧ (b = true → l.length ≤ n) ∧ Keeps w w' := by
  obtain ⟨p0, c0, rfl, hc0, hc1⟩ := r0.form
  have HR0 := Lib.hid r0
  have HW0 := Lib.hid w0
  clear r0 w0
  by_cases h40 : n < l.length
  · have e40 : decide ((n : Int) < (l.length : Int)) = true := decide_eq_true (by omega)
    have e41 : decide (n < l.length) = true := decide_eq_true h40
    go_enter Try.func46, Try.ntmps46
    go_wp2_with fail
    go_ret
    exact ⟨false, rfl, by simp, Keeps.refl _⟩
  have e40 : decide ((n : Int) < (l.length : Int)) = false := decide_eq_false (by omega)
  have e41 : decide (n < l.length) = false := decide_eq_false h40
  have HLE : Hid (l.length ≤ n) := Lib.hid (by omega)
  go_enter Try.func46, Try.ntmps46
  go_wp2_with fail
  go_loopw [5] (fun i wr => ∃ j : Nat, i = .int .i64 (j : Int) ∧ j ≤ l.length ∧ Hid (Keeps w wr)) (fun i _ => l.length - (intOf i).toNat)
  case atStart => exact ⟨0, rfl, Nat.zero_le _, Lib.hid (Keeps.refl _)⟩
  case round =>
    obtain ⟨j, rfl, hj, HK⟩ := hrel
    by_cases hlt : j < l.length
    · obtain ⟨bb, off, cap, hv, hrg⟩ := rowS_rec' (RowS.keeps HR0.out HK.out) hlt
      simp only [Value.slice.injEq] at hv
      obtain ⟨rfl, -, rfl⟩ := hv
      have HG := Lib.hid hrg
      have HL := Lib.hid (light_any l[j].1 l[j].2 wr ((HW0.out l[j] (List.getElem_mem hlt)).keeps HK.out))
      clear hrg
      generalize decide (l[j].1.data.length ≤ 1000) = li at *
      go_wp2_with (refine wpList_ldR rfl recM HG.out _ rfl rfl ?_)
      refine HL.out.mono ?_
      rintro e y1 ⟨rfl, hk1⟩
      cases li with
      | false =>
        go_wp2_with fail
        go_ret
        exact ⟨false, rfl, by simp, HK.out.trans hk1⟩
      | true =>
        go_wp2_with fail
        go_roundw
        case rel => exact ⟨j + 1, by simp, by omega, Lib.hid (HK.out.trans hk1)⟩
        case measure =>
          simp only [intOf]
          omega
    · go_wp2_with fail
      go_ret
      exact ⟨true, rfl, fun _ => HLE.out, HK.out⟩
end Mbx
end Go.Proofs.Ytohchhgheeolpaa

/- mbox.From; law20's awake. -/
namespace Go.Proofs.Ytohchhgheeolpaa
open Go.RowKit
namespace Mbx
open Rcd Go.Maps

theorem BoxAt.look1 {w : World} {g b1 b2 n : Nat} {m : Box} (h : BoxAt w g b1 b2 n m) {x : Int} (hx : (Lit.int .i64 x).wf = true) :
    (Instr.lookup 183 (.map (some b1)) (.int .i64 x) false).run Try.prog w = .ok (entV ((m.ent x).getD zeroEnt)) w := by
  obtain ⟨D, h1, h2⟩ := h.ent
  obtain ⟨v, ps, hrun, hv⟩ := h1.lookup intKeyed Try.underlying183 (zeroEnt_run w) (entElem_mk zeroEnt) (keyOf_int_mk Try.underlying3 hx)
  rw [h2.at_] at hv
  rw [hrun, entElem_inv hv]

set_option maxRecDepth 100000 in
set_option maxHeartbeats 1000000 in
theorem from_any (w : World) {g b1 b2 n : Nat} {m : Box} (h : BoxAt w g b1 b2 n m) (x u : Int) (hx : 1 ≤ x ∧ x ≤ 9223372036854775807) (hm : m.org x = some u) (hu : (Lit.int .i64 u).wf = true) : Calls Try.prog 57 #[.pointer (some ⟨g, 0, none⟩), .int .i64 x] w fun e w' => e = .returned (.tuple #[.agg (entA ((m.ent u).getD zeroEnt)), .bool true]) ∧ Keeps w w' := by
  have HB := Lib.hid h
  have hxw : (Lit.int .i64 x).wf = true := i64wf (by omega)
  clear h
  have HL := Lib.hid (fun w' (k : Keeps w w') => (HB.out.keeps k).lookO hxw)
  rw [hm] at HL
  have HL1 := Lib.hid (fun w' (k : Keeps w w') => (HB.out.keeps k).look1 hu)
  have e1 : decide (x < 1) = false := decide_eq_false (by omega)
  clear hm hxw hu
  generalize (m.ent u).getD zeroEnt = E at *
  go_enter Try.func57, Try.ntmps57
  go_upto_region 1 with fail
  generalize hW : World.alloc w _ = w1
  have HK := Lib.hid (show Keeps w w1 from by rw [← hW]; exact (Keeps.refl _).alloc _)
  have HZ := Lib.hid (show Blk w1 w.heap.size 85 entZ from by rw [← hW]; exact Blk.new _ _ _ rfl)
  clear hW
  obtain ⟨R, hR⟩ : ∃ R, R = w.heap.size := ⟨_, rfl⟩
  rw [← hR] at HZ ⊢
  have HR := Lib.hid hR
  clear hR
  have hl := HL.out w1 HK.out
  have hl1 := HL1.out w1 HK.out
  simp only [Option.getD_some, Option.isSome_some] at hl
  have hl1 : (Instr.lookup 183 (.map (some b1)) (.int .i64 u) false).run Try.prog w1 = .ok (.agg (entA E)) w1 := hl1
  obtain ⟨c0, c1, -⟩ := (HB.out.keeps HK.out).cells
  go_wp2_with (refine wpList_st (ds := entA E) rfl entM HZ.out rfl (entA_one _) _ _ rfl rfl rfl rfl ?_; intro w6 hB6 hM6)
  have HLd := Lib.hid (ld_run (P := Try.prog) entM hB6)
  have HX := Lib.hid (hM6.keeps HK.out (fun y hy => by have := HR.out; omega))
  clear hB6 hM6
  exact bodyPost_ret (v := .tuple #[.agg (entA E), .bool true]) (by simp [results, Try.results57, Sem.run_bind, Sem.run_pure, Result.andThen_ok, Act.put, asAddr, HLd.out]) rfl ⟨rfl, HX.out⟩

def rA : Rec := ⟨2, 0, 0, 0, 0, 1, 0, 0, 1, 5, 9, []⟩
def rB : Rec := ⟨2, 0, 0, 0, 0, 1, 0, 0, 1, 7, 0, []⟩
def rG : Rec := ⟨3, 0, 0, 0, 0, 1, 0, 0, 0, 0, 0, []⟩
def mA : Box := (take new rA).1
def mG : Box := (take mA rG).1
theorem aw1 : (take new rA).2 = true := by kernel_rfl
theorem aw2 : (take mA rB).2 = false := by kernel_rfl
theorem aw3 : (take mA rG).2 = true := by kernel_rfl
theorem aw4 : (take mG rG).2 = false := by kernel_rfl
theorem aw5 : mA.ub = 5 ∧ mA.uc = 1 := ⟨by kernel_rfl, by kernel_rfl⟩
theorem aw6 : mG.ub = 0 ∧ mG.uc = 0 ∧ mG.next = 2 := ⟨by kernel_rfl, by kernel_rfl, by kernel_rfl⟩
theorem aw7 : mG.org 9 = some 1 := by kernel_rfl
theorem aw8 : (mG.ent 1).getD zeroEnt = ⟨1, 0, 0, 1, 5, 9, true⟩ := by kernel_rfl
theorem aw9 : (take mA rB).1 = mA := by
  have : take mA rB = (mA, false) := by
    unfold take
    rw [if_neg (by rw [show chk rB = 0 from by kernel_rfl]; decide), if_pos (show rB.kind = 2 from rfl)]
    unfold add
    rw [if_pos (.inl (by kernel_rfl))]
  rw [this]
theorem aw10 : (take mG rG).1 = mG := by
  have : take mG rG = (mG, false) := by
    unfold take
    rw [if_neg (by rw [show chk rG = 0 from by kernel_rfl]; decide), if_neg (by decide), if_pos (show rG.kind = 3 from rfl)]
    unfold gone
    rw [show live mG rG.uid = none from by kernel_rfl]
  rw [this]
theorem bfr_ge {g b1 b2 k : Nat} (h0 : k ≤ g) (h1 : k ≤ b1) (h2 : k ≤ b2) : ∀ x, BFr g b1 b2 x → k ≤ x := by
  rintro x (rfl | rfl | rfl) <;> assumption

set_option maxRecDepth 100000 in
set_option maxHeartbeats 4000000 in
theorem awake20_any (w : World) : Calls Try.prog 45 #[] w fun e w' => e = .returned (.bool true) ∧ Keeps w w' := by
  go_enter Try.func45, Try.ntmps45
  go_wp2_with fail
  refine (new_any w).mono ?_
  rintro e w1 ⟨g, b1, b2, rfl, hg, h1, h2, hb, hk⟩
  have HGE := Lib.hid (bfr_ge hg h1 h2)
  have HB := Lib.hid hb
  have HK := Lib.hid hk
  have HN := Lib.hid (next_any w1 hb)
  clear hb hk hg h1 h2
  go_wp2_with fail
  refine HN.out.mono ?_
  rintro e w1' ⟨rfl, rfl⟩
  have hn1 : (new.next != 1) = false := rfl
  have hn2 : new.next = 1 := rfl
  rw [hn2]
  clear HN hn1 hn2
  have HT := Lib.hid (take_any w1 HB.out (by decide) rA (.slice none 0 0) (row_nil w1))
  rw [show take new rA = (mA, true) from Prod.ext rfl aw1] at HT
  unfold recA rA at HT
  go_wp2_with fail
  refine HT.out.mono ?_
  rintro e w2 ⟨rfl, hb, hm⟩
  have HB := Lib.hid hb
  have HK := Lib.hid (hm.keeps HK.out HGE.out)
  clear hb hm HT
  have HT := Lib.hid (take_any w2 HB.out (by decide) rB (.slice none 0 0) (row_nil w2))
  rw [show take mA rB = (mA, false) from Prod.ext aw9 aw2] at HT
  unfold recA rB at HT
  go_wp2_with fail
  refine HT.out.mono ?_
  rintro e w3 ⟨rfl, hb, hm⟩
  have HB := Lib.hid hb
  have HK := Lib.hid (hm.keeps HK.out HGE.out)
  clear hb hm HT
  have HU := Lib.hid (use_any w3 HB.out)
  rw [aw5.1, aw5.2] at HU
  go_wp2_with fail
  refine HU.out.mono ?_
  rintro e w4 ⟨rfl, hk4⟩
  have HB := Lib.hid (HB.out.keeps hk4)
  have HK := Lib.hid (HK.out.trans hk4)
  clear hk4 HU
  go_upto_region 7 with fail
  generalize hW : World.alloc w4 _ = w5
  have hk5 : Keeps w4 w5 := by rw [← hW]; exact (Keeps.refl _).alloc _
  have HUB := Lib.hid (show Blk w5 w4.heap.size 88 #[.int .i64 5, .int .i64 1] from by rw [← hW]; exact Blk.new _ _ _ rfl)
  have HUN := Lib.hid (fun x (hx : BFr g b1 b2 x) => show ¬ w4.heap.size = x from by have := HB.out.lt x hx; omega)
  have HB := Lib.hid (HB.out.keeps hk5)
  have HK := Lib.hid (HK.out.trans hk5)
  clear hW hk5
  generalize w4.heap.size = bu at *
  have HT := Lib.hid (take_any w5 HB.out (by decide) rG (.slice none 0 0) (row_nil w5))
  rw [show take mA rG = (mG, true) from Prod.ext rfl aw3] at HT
  unfold recA rG at HT
  go_wp2_with fail
  refine HT.out.mono ?_
  rintro e w6 ⟨rfl, hb, hm⟩
  have HB := Lib.hid hb
  have HK := Lib.hid (hm.keeps HK.out HGE.out)
  have HUB := Lib.hid (HUB.out.mods hm (fun hx => HUN.out _ hx rfl))
  clear hb hm HT
  have HT := Lib.hid (take_any w6 HB.out (by decide) rG (.slice none 0 0) (row_nil w6))
  rw [show take mG rG = (mG, false) from Prod.ext aw10 aw4] at HT
  unfold recA rG at HT
  go_wp2_with fail
  refine HT.out.mono ?_
  rintro e w7 ⟨rfl, hb, hm⟩
  have HB := Lib.hid hb
  have HK := Lib.hid (hm.keeps HK.out HGE.out)
  have HUB := Lib.hid (HUB.out.mods hm (fun hx => HUN.out _ hx rfl))
  clear hb hm HT
  have HF := Lib.hid (from_any w7 HB.out 9 1 (by decide) aw7 (by decide))
  rw [aw8] at HF
  unfold entA at HF
  go_wp2_with fail
  refine HF.out.mono ?_
  rintro e w8 ⟨rfl, hk8⟩
  have HB := Lib.hid (HB.out.keeps hk8)
  have HK := Lib.hid (HK.out.trans hk8)
  have HUB := Lib.hid (HUB.out.keeps hk8)
  clear hk8 HF
  go_upto_region 10 with fail
  generalize hW : World.alloc w8 _ = w9
  have hk9 : Keeps w8 w9 := by rw [← hW]; exact (Keeps.refl _).alloc _
  have HEB := Lib.hid (show Blk w9 w8.heap.size 85 (entA ⟨1, 0, 0, 1, 5, 9, true⟩) from by rw [← hW]; exact Blk.new _ _ _ rfl)
  have HB := Lib.hid (HB.out.keeps hk9)
  have HK := Lib.hid (HK.out.trans hk9)
  have HUB := Lib.hid (HUB.out.keeps hk9)
  clear hW hk9
  generalize w8.heap.size = be at *
  have u0 : w9.cell? ⟨bu, 0, none⟩ = some (.int .i64 5) := by rw [HUB.out.cell]; rfl
  have u1 : w9.cell? ⟨bu, 1, none⟩ = some (.int .i64 1) := by rw [HUB.out.cell]; rfl
  have HU := Lib.hid (use_any w9 HB.out)
  rw [aw6.1, aw6.2.1] at HU
  go_wp2_with fail
  refine HU.out.mono ?_
  rintro e w10 ⟨rfl, hk10⟩
  have HB := Lib.hid (HB.out.keeps hk10)
  have HK := Lib.hid (HK.out.trans hk10)
  have HEB := Lib.hid (HEB.out.keeps hk10)
  clear hk10 HU u0 u1
  have HN := Lib.hid (next_any w10 HB.out)
  rw [aw6.2.2] at HN
  go_wp2_with fail
  refine HN.out.mono ?_
  rintro e w11 ⟨rfl, rfl⟩
  have x0 : w10.cell? ⟨be, 0, none⟩ = some (.int .i64 1) := by rw [HEB.out.cell]; rfl
  have x6 : w10.cell? ⟨be, 6, none⟩ = some (.bool true) := by rw [HEB.out.cell]; rfl
  go_wp2_with fail
  go_ret
  exact ⟨rfl, HK.out⟩
end Mbx
end Go.Proofs.Ytohchhgheeolpaa

/- The law MboxMakes, walked. -/
namespace Go.Proofs.Ytohchhgheeolpaa
open Go.RowKit
namespace Mbx
open Rcd Go.Maps

def recs (l : List RecX) : List Rec := l.map (·.1)
theorem recs_next (l : List RecX) {j : Nat} (h : j < l.length) : all new (recs (l.take (j + 1))) = (take (all new (recs (l.take j))) l[j].1).1 := by
  rw [List.take_succ_eq_append_getElem h]
  unfold recs
  rw [List.map_append]
  exact all_snoc _ _ _

end Mbx
end Go.Proofs.Ytohchhgheeolpaa
