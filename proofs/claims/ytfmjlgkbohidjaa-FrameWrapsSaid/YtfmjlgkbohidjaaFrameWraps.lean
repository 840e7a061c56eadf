/- The law FrameWraps, walked. -/
import Derived.Test.YtfmjlgkbohidjaaFrameAwake
import Derived.Test.YtfmjlgkbohidjaaFrameRef
import Derived.Test.YtfmjlgkbohidjaaFrameBackPlain
import Derived.Test.YtfmjlgkbohidjaaDrawn
import Derived.Test.YtfmjlgkbohidjaaOctetLaws
namespace Go.Proofs.Ytfmjlgkbohidjaa
open Go.RowKit
namespace Frm
open Oct

/-- the mark stands ahead alone -/
theorem wrapL_mark (k : Int) (p : List UInt8) {i : Nat} (hi : i < (wrapL k p).length) (h1 : 1 ≤ i) : (wrapL k p)[i] ≠ 80 := by
  intro h
  obtain ⟨j, rfl⟩ : ∃ j, i = j + 1 := ⟨i - 1, by omega⟩
  unfold wrapL at hi h
  split at hi
  · rename_i he
    simp only [he, if_true, List.getElem_cons_succ] at h
    exact veil_mark _ (h ▸ List.getElem_mem _)
  · simp at hi

set_option maxRecDepth 100000 in
set_option maxHeartbeats 1000000 in
theorem frameWraps_walk (W : World) (a0 : Int) (v1 : Value) (l : List UInt8) (_w0 : (Lit.int .i64 a0).wf = true) (r1 : Row W v1 (l.map u8v)) : Calls Try.prog 8 #[.int .i64 a0, v1] W fun e w' => e = .returned (.bool true) ∧ Keeps W w' := by
  obtain ⟨p, cap, rfl, hc1, hc2⟩ := r1.formB
  have HR := Lib.hid r1
  clear r1
  by_cases h3 : 3000 < l.length
  · go_enter Try.func8, Try.ntmps8
    go_wp2_with fail
    refine (awake_any _).mono ?_
    rintro e w1 ⟨rfl, hK1⟩
    go_wp2_with fail
    go_ret
    exact ⟨rfl, hK1⟩
  · have C1 := Lib.hid (fun w (k : Keeps W w) => wrap_any a0 (.slice p l.length cap) l w (HR.out.keeps k))
    have C2 := Lib.hid (fun w (k : Keeps W w) => rWrap_any a0 (.slice p l.length cap) l w (HR.out.keeps k))
    have HM := Lib.hid (fun (i : Nat) (hi : i < (wrapL a0 l).length) (h1 : 1 ≤ i) => wrapL_mark a0 l hi h1)
    generalize wrapL a0 l = A at *
    generalize wrapE a0 l.length = E at *
    go_enter Try.func8, Try.ntmps8
    go_wp2_with fail
    refine (awake_any _).mono ?_
    rintro e w1 ⟨rfl, hK1⟩
    go_wp2_with fail
    refine (C1.out _ hK1).mono ?_
    rintro e w2 ⟨va, rfl, hown2, hK2⟩
    have HK2 := Lib.hid (hK1.trans hK2)
    go_wp2_with fail
    refine (C2.out _ HK2.out).mono ?_
    rintro e w3 ⟨vb, rfl, hown3, hK3⟩
    have HK3 := Lib.hid (HK2.out.trans hK3)
    obtain ⟨pa, ca, rfl, hca1, hca2⟩ := hown2.row.formB
    obtain ⟨pb, cb, rfl, hcb1, hcb2⟩ := hown3.row.formB
    have HA := Lib.hid (hown2.keeps hK3)
    have HB := Lib.hid hown3
    clear hown2 hown3 hK1 hK2 hK3
    go_wp2_with fail
    go_loopw [9] (fun i wr => ∃ j : Nat, 1 ≤ j ∧ i = .int .i64 j ∧ wr = w3) (fun i _ => A.length - (intOf i).toNat)
    case atStart => exact ⟨1, by omega, rfl, rfl⟩
    case round =>
      obtain ⟨j, hj, rfl, rfl⟩ := hrel
      by_cases hlt : j < A.length
      · obtain ⟨b, off, cc, he, hcc1, hcc2, HC⟩ := HA.out.row.bytesAt (by omega)
        simp only [Value.slice.injEq] at he
        obtain ⟨rfl, -, rfl⟩ := he
        have hcell : wr.cell? ⟨b, off + j, none⟩ = some (.int .u8 (A[j].toNat : Int)) := HC.out j _ (by simp [hlt])
        have hx : ((A[j].toNat : Int) == 80) = false := by
          rw [beq_eq_false_iff_ne]
          intro h
          exact HM.out j hlt hj (UInt8.toNat_inj.1 (by simp; omega))
        have hxl := A[j].toNat_lt
        generalize A[j] = x at *
        go_wp2_with fail
        go_roundw
        case rel => exact ⟨j + 1, by omega, by simp⟩
        case measure =>
          simp only [intOf]
          omega
      · have hA := Lib.hid (str_at' HA.out.row)
        have C3 := Lib.hid (fun w (k : Keeps wr w) => veil_any (.slice p l.length cap) l w (HR.out.keeps (HK3.out.trans k)) (by omega))
        have C4 := Lib.hid (fun w (k : Keeps wr w) => rVeil_any (.slice p l.length cap) l w (HR.out.keeps (HK3.out.trans k)) (by omega))
        go_wp2_with fail
        refine wp_region_noPanic ?_
        refine wp_region_held_drew (S := fun w' => Keeps (wr) w') (by kernel_rfl) ((Keeps.refl _).drew) (fun _ => ?_)
        have hHeld : Keeps (wr) (wr).drew := (Keeps.refl _).drew
        refine wpAnyH_take (i := 0) (v := ?vv1) (by rfl) (by kernel_rfl) (by kernel_rfl) (by kernel_rfl) (by intro _ _ _ h; exact h) (Or.inl ⟨by kernel_rfl, ?hy1⟩) (by assumption) ?rest1
        case hy1 =>
          intro w' hSw
          have hSw : Keeps _ w' := hSw
          clear hSw
          go_simp
          try with_reducible rfl
        change wpAnyH _ _ _ _ _ _ _ (Act.put _ (some 38) _) _
        try simp only [Act.put, List.setIfInBounds_toArray, List.set_cons_zero, List.set_cons_succ]
        refine wpAnyH_take (i := 1) (v := ?vv2) (by rfl) (by kernel_rfl) (by kernel_rfl) (by kernel_rfl) (by intro _ _ _ h; exact h) (Or.inl ⟨by kernel_rfl, ?hy2⟩) (by assumption) ?rest2
        case hy2 =>
          intro w' hSw
          have hSw : Keeps _ w' := hSw
          have hc := str_at' (HA.out.row.keeps hSw)
          clear hSw
          go_simp
          try with_reducible rfl
        change wpAnyH _ _ _ _ _ _ _ (Act.put _ (some 39) _) _
        try simp only [Act.put, List.setIfInBounds_toArray, List.set_cons_zero, List.set_cons_succ]
        refine wpAnyH_take (i := 2) (v := ?vv3) (by rfl) (by kernel_rfl) (by kernel_rfl) (by kernel_rfl) (by intro _ _ _ h; exact h) (Or.inl ⟨by kernel_rfl, ?hy3⟩) (by assumption) ?rest3
        case hy3 =>
          intro w' hSw
          have hSw : Keeps _ w' := hSw
          clear hSw
          go_simp
          try with_reducible rfl
        change wpAnyH _ _ _ _ _ _ _ (Act.put _ (some 40) _) _
        try simp only [Act.put, List.setIfInBounds_toArray, List.set_cons_zero, List.set_cons_succ]
        refine wpAnyH_take (i := 3) (v := ?vv4) (by rfl) (by kernel_rfl) (by kernel_rfl) (by kernel_rfl) (by intro _ _ _ h; exact h) (Or.inl ⟨by kernel_rfl, ?hy4⟩) (by assumption) ?rest4
        case hy4 =>
          intro w' hSw
          have hSw : Keeps _ w' := hSw
          have hc := str_at' (HB.out.row.keeps hSw)
          clear hSw
          go_simp
          try with_reducible rfl
        change wpAnyH _ _ _ _ _ _ _ (Act.put _ (some 41) _) _
        try simp only [Act.put, List.setIfInBounds_toArray, List.set_cons_zero, List.set_cons_succ]
        refine wpAnyH_take (i := 4) (v := ?vv5) (by rfl) (by kernel_rfl) (by kernel_rfl) (by kernel_rfl) (by intro _ _ _ h; exact h) (Or.inl ⟨by kernel_rfl, ?hy5⟩) (by assumption) ?rest5
        case hy5 =>
          intro w' hSw
          have hSw : Keeps _ w' := hSw
          clear hSw
          go_simp
          try with_reducible rfl
        change wpAnyH _ _ _ _ _ _ _ (Act.put _ (some 42) _) _
        try simp only [Act.put, List.setIfInBounds_toArray, List.set_cons_zero, List.set_cons_succ]
        refine wpAnyH_take (i := 5) (v := ?vv6) (by rfl) (by kernel_rfl) (by kernel_rfl) (by kernel_rfl) (by intro _ _ _ h; exact h) (Or.inl ⟨by kernel_rfl, ?hy6⟩) (by assumption) ?rest6
        case hy6 =>
          intro w' hSw
          have hSw : Keeps _ w' := hSw
          clear hSw
          go_simp
          try with_reducible rfl
        change wpAnyH _ _ _ _ _ _ _ (Act.put _ (some 43) _) _
        try simp only [Act.put, List.setIfInBounds_toArray, List.set_cons_zero, List.set_cons_succ]
        refine wpAnyH_take (i := 6) (v := ?vv7) (by rfl) (by kernel_rfl) (by kernel_rfl) (by kernel_rfl) (by intro _ _ _ h; exact h) (Or.inl ⟨by kernel_rfl, ?hy7⟩) (by assumption) ?rest7
        case hy7 =>
          intro w' hSw
          have hSw : Keeps _ w' := hSw
          clear hSw
          go_simp
          try with_reducible rfl
        change wpAnyH _ _ _ _ _ _ _ (Act.put _ (some 44) _) _
        try simp only [Act.put, List.setIfInBounds_toArray, List.set_cons_zero, List.set_cons_succ]
        refine wpAnyH_take (i := 7) (v := ?vv8) (by rfl) (by kernel_rfl) (by kernel_rfl) (by kernel_rfl) (by intro _ _ _ h; exact h) (Or.inl ⟨by kernel_rfl, ?hy8⟩) (by assumption) ?rest8
        case hy8 =>
          intro w' hSw
          have hSw : Keeps _ w' := hSw
          clear hSw
          go_simp
          try with_reducible rfl
        change wpAnyH _ _ _ _ _ _ _ (Act.put _ (some 45) _) _
        try simp only [Act.put, List.setIfInBounds_toArray, List.set_cons_zero, List.set_cons_succ]
        refine wpAnyH_take (i := 8) (v := ?vv9) (by rfl) (by kernel_rfl) (by kernel_rfl) (by kernel_rfl) (by intro _ _ _ h; exact h) (Or.inl ⟨by kernel_rfl, ?hy9⟩) (by assumption) ?rest9
        case hy9 =>
          intro w' hSw
          have hSw : Keeps _ w' := hSw
          clear hSw
          go_simp
          try with_reducible rfl
        change wpAnyH _ _ _ _ _ _ _ (Act.put _ (some 46) _) _
        try simp only [Act.put, List.setIfInBounds_toArray, List.set_cons_zero, List.set_cons_succ]
        refine wpAnyH_take (i := 9) (v := ?vv10) (by rfl) (by kernel_rfl) (by kernel_rfl) (by kernel_rfl) (by intro _ _ _ h; exact h) (Or.inl ⟨by kernel_rfl, ?hy10⟩) (by assumption) ?rest10
        case hy10 =>
          intro w' hSw
          have hSw : Keeps _ w' := hSw
          clear hSw
          go_simp
          try with_reducible rfl
        change wpAnyH _ _ _ _ _ _ _ (Act.put _ (some 47) _) _
        try simp only [Act.put, List.setIfInBounds_toArray, List.set_cons_zero, List.set_cons_succ]
        refine wpAnyH_take (i := 10) (v := ?vv11) (by rfl) (by kernel_rfl) (by kernel_rfl) (by kernel_rfl) (by intro _ _ _ h; exact h) (Or.inl ⟨by kernel_rfl, ?hy11⟩) (by assumption) ?rest11
        case hy11 =>
          intro w' hSw
          have hSw : Keeps _ w' := hSw
          clear hSw
          go_simp
          try with_reducible rfl
        change wpAnyH _ _ _ _ _ _ _ (Act.put _ (some 48) _) _
        try simp only [Act.put, List.setIfInBounds_toArray, List.set_cons_zero, List.set_cons_succ]
        refine wpAnyH_take (i := 11) (v := ?vv12) (by rfl) (by kernel_rfl) (by kernel_rfl) (by kernel_rfl) (by intro _ _ _ h; exact h) (Or.inl ⟨by kernel_rfl, ?hy12⟩) (by assumption) ?rest12
        case hy12 =>
          intro w' hSw
          have hSw : Keeps _ w' := hSw
          clear hSw
          go_simp
          try with_reducible rfl
        change wpAnyH _ _ _ _ _ _ _ (Act.put _ (some 49) _) _
        try simp only [Act.put, List.setIfInBounds_toArray, List.set_cons_zero, List.set_cons_succ]
        refine wpAnyH_take (i := 14) (v := ?vv13) (by rfl) (by kernel_rfl) (by kernel_rfl) (by kernel_rfl) (by intro _ _ _ h; exact h) (Or.inl ⟨by kernel_rfl, ?hy13⟩) (by assumption) ?rest13
        case hy13 =>
          intro w' hSw
          have hSw : Keeps _ w' := hSw
          clear hSw
          go_simp
          try with_reducible rfl
        change wpAnyH _ _ _ _ _ _ _ (Act.put _ (some 52) _) _
        try simp only [Act.put, List.setIfInBounds_toArray, List.set_cons_zero, List.set_cons_succ]
        refine wpAnyH_ready (rs := [12]) (by kernel_rfl) (by simp) ?_
        refine AllReadyH.cons (o := _) rfl (fun K hK => ?_) AllReadyH.nil
        go_simp
        refine (C3.out _ hHeld).mono ?_
        rintro e w5 ⟨v5, rfl, hown5, hk⟩
        have hb : Keeps _ w5 := hHeld.trans hk
        have H5 := Lib.hid hown5
        have HX := Lib.hid hb
        clear hown5
        go_wp2_with fail
        refine hK.out _ _ hb (fun _ => ?_)
        clear hK K
        try simp only [Act.put, List.setIfInBounds_toArray, List.set_cons_zero, List.set_cons_succ]
        refine wpAnyH_more (S' := fun w' => Keeps w5 w') (fun _ h => hb.trans h) ?_
        clear hHeld hb hk
        have hHeld : Keeps w5 w5 := Keeps.refl _
        refine wpAnyH_take (i := 13) (v := ?vv14) (by rfl) (by kernel_rfl) (by kernel_rfl) (by kernel_rfl) (by intro _ _ _ h; exact h) (Or.inl ⟨by kernel_rfl, ?hy14⟩) (by assumption) ?rest14
        case hy14 =>
          intro w' hSw
          have hSw : Keeps _ w' := hSw
          have hc := str_at' (H5.out.row.keeps hSw)
          clear hSw
          go_simp
          try with_reducible rfl
        change wpAnyH _ _ _ _ _ _ _ (Act.put _ (some 51) _) _
        try simp only [Act.put, List.setIfInBounds_toArray, List.set_cons_zero, List.set_cons_succ]
        refine wpAnyH_ready (rs := [15]) (by kernel_rfl) (by simp) ?_
        refine AllReadyH.cons (o := _) rfl (fun K hK => ?_) AllReadyH.nil
        go_simp
        refine (C4.out _ (HX.out.trans hHeld)).mono ?_
        rintro e w6 ⟨v6, rfl, hown6, hk⟩
        have hb : Keeps _ w6 := hHeld.trans hk
        have H6 := Lib.hid hown6
        have HY := Lib.hid (HX.out.trans hb)
        clear hown6
        go_wp2_with fail
        refine hK.out _ _ hb (fun _ => ?_)
        clear hK K
        try simp only [Act.put, List.setIfInBounds_toArray, List.set_cons_zero, List.set_cons_succ]
        refine wpAnyH_more (S' := fun w' => Keeps w6 w') (fun _ h => hb.trans h) ?_
        clear hHeld hb hk
        have hHeld : Keeps w6 w6 := Keeps.refl _
        refine wpAnyH_take (i := 16) (v := ?vv15) (by rfl) (by kernel_rfl) (by kernel_rfl) (by kernel_rfl) (by intro _ _ _ h; exact h) (Or.inl ⟨by kernel_rfl, ?hy15⟩) (by assumption) ?rest15
        case hy15 =>
          intro w' hSw
          have hSw : Keeps _ w' := hSw
          have hc := str_at' (H6.out.row.keeps hSw)
          clear hSw
          go_simp
          try with_reducible rfl
        change wpAnyH _ _ _ _ _ _ _ (Act.put _ (some 54) _) _
        try simp only [Act.put, List.setIfInBounds_toArray, List.set_cons_zero, List.set_cons_succ]
        refine wpAnyH_take (i := 17) (v := ?vv16) (by rfl) (by kernel_rfl) (by kernel_rfl) (by kernel_rfl) (by intro _ _ _ h; exact h) (Or.inl ⟨by kernel_rfl, ?hy16⟩) (by assumption) ?rest16
        case hy16 =>
          intro w' hSw
          have hSw : Keeps _ w' := hSw
          clear hSw
          go_simp
          try with_reducible rfl
        change wpAnyH _ _ _ _ _ _ _ (Act.put _ (some 55) _) _
        try simp only [Act.put, List.setIfInBounds_toArray, List.set_cons_zero, List.set_cons_succ]
        refine wpAnyH_take (i := 18) (v := ?vv17) (by rfl) (by kernel_rfl) (by kernel_rfl) (by kernel_rfl) (by intro _ _ _ h; exact h) (Or.inl ⟨by kernel_rfl, ?hy17⟩) (by assumption) ?rest17
        case hy17 =>
          intro w' hSw
          have hSw : Keeps _ w' := hSw
          clear hSw
          go_simp
          try with_reducible rfl
        change wpAnyH _ _ _ _ _ _ _ (Act.put _ (some 56) _) _
        try simp only [Act.put, List.setIfInBounds_toArray, List.set_cons_zero, List.set_cons_succ]
        refine wpAnyH_take (i := 19) (v := ?vv18) (by rfl) (by kernel_rfl) (by kernel_rfl) (by kernel_rfl) (by intro _ _ _ h; exact h) (Or.inl ⟨by kernel_rfl, ?hy18⟩) (by assumption) ?rest18
        case hy18 =>
          intro w' hSw
          have hSw : Keeps _ w' := hSw
          clear hSw
          go_simp
          try with_reducible rfl
        change wpAnyH _ _ _ _ _ _ _ (Act.put _ (some 4) _) _
        try simp only [Act.put, List.setIfInBounds_toArray, List.set_cons_zero, List.set_cons_succ]
        refine wpAnyH_done (by kernel_rfl) ?_ _
        refine NoPanic.normal ?_
        go_wp2_with fail
        go_ret
        exact ⟨rfl, HK3.out.trans HY.out⟩
end Frm
end Go.Proofs.Ytfmjlgkbohidjaa
