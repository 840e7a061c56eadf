/- Several texts in one: MboxSame, MboxClone. -/
import Derived.Test.YtohchhgheeolpaaK30
import Derived.Test.YtohchhgheeolpaaK29
import Derived.Test.YtohchhgheeolpaaMboxRefTake
/- mbox.From of any origin; law20.same. -/
namespace Go.Proofs.Ytohchhgheeolpaa
open Go.RowKit
namespace Mbx
open Rcd Go.Maps

def fromM (m : Box) (x : Int) : Option Int := if 1 ≤ x then m.org x else none
set_option maxRecDepth 100000 in
set_option maxHeartbeats 1000000 in
theorem from_g (w : World) {g b1 b2 n : Nat} {m : Box} (h : BoxAt w g b1 b2 n m) (x : Int) (hx : (Lit.int .i64 x).wf = true) (hu : ∀ u, m.org x = some u → (Lit.int .i64 u).wf = true) : Calls Try.prog 57 #[.pointer (some ⟨g, 0, none⟩), .int .i64 x] w fun e w' => e = .returned (.tuple #[.agg (entA (match fromM m x with | none => zeroEnt | some u => (m.ent u).getD zeroEnt)), .bool (fromM m x).isSome]) ∧ Keeps w w' := by
  have hxb : -9223372036854775808 ≤ x ∧ x ≤ 9223372036854775807 := by simpa [Lit.wf, IntKind.min, IntKind.max, IntKind.signed, IntKind.bits] using hx
  cases hm : fromM m x with
  | some u =>
    unfold fromM at hm
    by_cases h1 : 1 ≤ x
    · rw [if_pos h1] at hm
      exact from_any w h x u ⟨h1, hxb.2⟩ hm (hu u hm)
    · rw [if_neg h1] at hm; cases hm
  | none =>
    have HB := Lib.hid h
    have HL := Lib.hid (fun w' (k : Keeps w w') => (HB.out.keeps k).lookO hx)
    have hc : m.org x = none ∨ (∃ u, m.org x = some u ∧ x < 1) := by
      unfold fromM at hm
      cases ho : m.org x with
      | none => exact .inl rfl
      | some u =>
        refine .inr ⟨u, rfl, ?_⟩
        by_cases h1 : 1 ≤ x
        · rw [if_pos h1, ho] at hm; cases hm
        · omega
    clear h hu hm hxb
    go_enter Try.func57, Try.ntmps57
    go_upto_region 1 with fail
    generalize hW : World.alloc w _ = w1
    have HK := Lib.hid (show Keeps w w1 from by rw [← hW]; exact (Keeps.refl _).alloc _)
    have HZ := Lib.hid (show Blk w1 w.heap.size 85 entZ from by rw [← hW]; exact Blk.new _ _ _ rfl)
    clear hW
    obtain ⟨R, hR⟩ : ∃ R, R = w.heap.size := ⟨_, rfl⟩
    rw [← hR] at HZ ⊢
    have HR := Lib.hid hR
    clear hR
    have hl := HL.out w1 HK.out
    obtain ⟨c0, c1, -⟩ := (HB.out.keeps HK.out).cells
    rcases hc with ho | ⟨u, ho, hx1⟩
    · rw [ho] at hl
      simp only [Option.getD_none, Option.isSome_none] at hl
      go_wp2_with (refine wpList_st (ds := entA zeroEnt) rfl entM HZ.out rfl (entA_one _) _ _ rfl rfl rfl rfl ?_; intro w6 hB6 hM6)
      have HLd := Lib.hid (ld_run (P := Try.prog) entM hB6)
      have HX := Lib.hid (hM6.keeps HK.out (fun y hy => by have := HR.out; omega))
      clear hB6 hM6
      exact bodyPost_ret (v := .tuple #[.agg (entA zeroEnt), .bool false]) (by simp [results, Try.results57, Sem.run_bind, Sem.run_pure, Result.andThen_ok, Act.put, asAddr, HLd.out]) rfl ⟨rfl, HX.out⟩
    · rw [ho] at hl
      simp only [Option.getD_some, Option.isSome_some] at hl
      have e1 : decide (x < 1) = true := decide_eq_true hx1
      go_wp2_with (refine wpList_st (ds := entA zeroEnt) rfl entM HZ.out rfl (entA_one _) _ _ rfl rfl rfl rfl ?_; intro w6 hB6 hM6)
      have HLd := Lib.hid (ld_run (P := Try.prog) entM hB6)
      have HX := Lib.hid (hM6.keeps HK.out (fun y hy => by have := HR.out; omega))
      clear hB6 hM6
      exact bodyPost_ret (v := .tuple #[.agg (entA zeroEnt), .bool false]) (by simp [results, Try.results57, Sem.run_bind, Sem.run_pure, Result.andThen_ok, Act.put, asAddr, HLd.out]) rfl ⟨rfl, HX.out⟩
theorem next_kk (w : World) {g b1 b2 n : Nat} {m : Box} (h : BoxAt w g b1 b2 n m) : Calls Try.prog 50 #[.pointer (some ⟨g, 0, none⟩)] w fun e w' => e = .returned (.int .i64 m.next) ∧ Keeps w w' :=
  (next_any w h).mono (fun e w' h => ⟨h.1, by rw [← h.2]; exact Keeps.refl _⟩)
theorem recsOf_data (l : List Ent) : ∀ r ∈ recsOf l, r.data = [] := by
  intro r hr
  unfold recsOf at hr
  obtain ⟨e, -, he⟩ := List.mem_flatMap.1 hr
  rcases List.mem_cons.1 he with rfl | he
  · rfl
  · split at he
    · simp at he; subst he; rfl
    · simp at he
set_option maxRecDepth 100000 in
set_option maxHeartbeats 4000000 in
theorem same20_any (w : World) {g b1 b2 n k : Nat} {m : Box} {L : List Ent} {v : Value} (h : BoxAt w g b1 b2 n m) (hn : n ≤ 900000) (hs : Rel m L) (hsz : ∀ e ∈ L, 0 ≤ e.size) (hub : m.ub ≤ 4611686018427387904) (hwf : ∀ e ∈ L, (Lit.int .i64 e.uid).wf = true) (hv : EntR w v L) : Calls Try.prog 54 #[.pointer (some ⟨g, 0, none⟩), .agg #[v, .int .i64 m.next]] w fun e w' => e = .returned (.bool true) ∧ Keeps w w' := by
  obtain ⟨p, c, rfl, hc0, hc1⟩ := RowS.form hv
  have hlL := Rel.len_le h hs
  have hus : sumS L = m.ub ∧ cntS L = m.uc := ⟨hs.ub.symm, hs.uc.symm⟩
  have HLI := Lib.hid (fun w' (k : Keeps w w') gone => list_any w' (h.keeps k) hn hs hwf gone)
  have HRE := Lib.hid (fun w' (k : Keeps w w') gone => records_any w' (h.keeps k) hn hs hwf gone)
  have HNX := Lib.hid (fun w' (k : Keeps w w') => next_kk w' (h.keeps k))
  have HUS := Lib.hid (fun w' (k : Keeps w w') => use_any w' (h.keeps k))
  have HRU := Lib.hid (fun w' (k : Keeps w w') => rUse_any w' (hv.keeps k) m.next hsz (by rw [hus.1]; exact hub) (by omega))
  have HRL := Lib.hid (fun w' (k : Keeps w w') gone => rList_any w' (hv.keeps k) m.next gone (by omega))
  have HRR := Lib.hid (fun w' (k : Keeps w w') gone => rRecords_any w' (hv.keeps k) m.next gone (by omega))
  have HV := Lib.hid hv
  rw [hus.1, hus.2] at HRU
  clear h hs hsz hwf hv hus hub
  go_enter Try.func54, Try.ntmps54
  go_upto_region 1 with fail
  generalize hW : World.alloc w _ = w1
  have HK1 := Lib.hid (show Keeps w w1 from by rw [← hW]; exact (Keeps.refl _).alloc _)
  have HM := Lib.hid (show Blk w1 w.heap.size 92 #[.slice p L.length c, .int .i64 m.next] from by rw [← hW]; exact Blk.new _ _ _ rfl)
  clear hW
  generalize w.heap.size = q at *
  have m0 : w1.cell? ⟨q, 0, none⟩ = some (.slice p L.length c) := by rw [HM.out.cell]; rfl
  have m1 : w1.cell? ⟨q, 1, none⟩ = some (.int .i64 m.next) := by rw [HM.out.cell]; rfl
  go_cut [32] (fun t wx => t = .bool false ∧ Keeps w1 wx)
  case first =>
    refine wp_region_noPanic ?_
    refine wp_region_held_drew (S := fun w' => Keeps (w1) w') (by kernel_rfl) ((Keeps.refl _).drew) (fun _ => ?_)
    have hHeld : Keeps (w1) (w1).drew := (Keeps.refl _).drew
    refine wpAnyH_take (i := 0) (v := ?vv1) (by rfl) (by kernel_rfl) (by kernel_rfl) (by kernel_rfl) (by intro _ _ _ h; exact h) (Or.inl ⟨by kernel_rfl, ?hy1⟩) (by assumption) ?rest1
    case hy1 =>
      intro w' hSw
      have hSw : Keeps _ w' := hSw
      clear hSw
      go_simp
      try with_reducible rfl
    change wpAnyH _ _ _ _ _ _ _ (Act.put _ (some 5) _) _
    try simp only [Act.put, List.setIfInBounds_toArray, List.set_cons_zero, List.set_cons_succ]
    refine wpAnyH_take (i := 2) (v := ?vv2) (by rfl) (by kernel_rfl) (by kernel_rfl) (by kernel_rfl) (by intro _ _ _ h; exact h) (Or.inl ⟨by kernel_rfl, ?hy2⟩) (by assumption) ?rest2
    case hy2 =>
      intro w' hSw
      have hSw : Keeps _ w' := hSw
      clear hSw
      go_simp
      try with_reducible rfl
    change wpAnyH _ _ _ _ _ _ _ (Act.put _ (some 7) _) _
    try simp only [Act.put, List.setIfInBounds_toArray, List.set_cons_zero, List.set_cons_succ]
    refine wpAnyH_take (i := 3) (v := ?vv3) (by rfl) (by kernel_rfl) (by kernel_rfl) (by kernel_rfl) (by intro _ _ _ h; exact h) (Or.inl ⟨by kernel_rfl, ?hy3⟩) (by assumption) ?rest3
    case hy3 =>
      intro w' hSw
      have hSw : Keeps _ w' := hSw
      have h1 := keep1 hSw m1
      clear hSw
      go_simp
      try with_reducible rfl
    change wpAnyH _ _ _ _ _ _ _ (Act.put _ (some 8) _) _
    try simp only [Act.put, List.setIfInBounds_toArray, List.set_cons_zero, List.set_cons_succ]
    refine wpAnyH_ready (rs := [1]) (by kernel_rfl) (by simp) ?_
    refine AllReadyH.cons (o := _) rfl (fun K hK => ?_) AllReadyH.nil
    go_simp
    refine (HNX.out _ (HK1.out.trans hHeld)).mono ?_
    rintro e z1 ⟨rfl, hk⟩
    have hb : Keeps _ z1 := hHeld.trans hk
    have HZ := Lib.hid (HK1.out.trans hb)
    have m0 := keep1 hb m0
    have m1 := keep1 hb m1
    have HZ1 := Lib.hid hb
    go_wp2_with fail
    refine hK.out _ _ hb (fun _ => ?_)
    clear hK K
    try simp only [Act.put, List.setIfInBounds_toArray, List.set_cons_zero, List.set_cons_succ]
    refine wpAnyH_more (S' := fun w' => Keeps z1 w') (fun _ h => hb.trans h) ?_
    clear hHeld hb hk
    have hHeld : Keeps z1 z1 := Keeps.refl _
    refine wpAnyH_take (i := 4) (v := ?vv4) (by rfl) (by kernel_rfl) (by kernel_rfl) (by kernel_rfl) (by intro _ _ _ h; exact h) (Or.inl ⟨by kernel_rfl, ?hy4⟩) (by assumption) ?rest4
    case hy4 =>
      intro w' hSw
      have hSw : Keeps _ w' := hSw
      clear hSw
      go_simp
      try with_reducible rfl
    change wpAnyH _ _ _ _ _ _ _ (Act.put _ (some 9) _) _
    try simp only [Act.put, List.setIfInBounds_toArray, List.set_cons_zero, List.set_cons_succ]
    refine wpAnyH_take (i := 5) (v := ?vv5) (by rfl) (by kernel_rfl) (by kernel_rfl) (by kernel_rfl) (by intro _ _ _ h; exact h) (Or.inl ⟨by kernel_rfl, ?hy5⟩) (by assumption) ?rest5
    case hy5 =>
      intro w' hSw
      have hSw : Keeps _ w' := hSw
      clear hSw
      go_simp
      try with_reducible rfl
    change wpAnyH _ _ _ _ _ _ _ (Act.put _ (some 10) _) _
    try simp only [Act.put, List.setIfInBounds_toArray, List.set_cons_zero, List.set_cons_succ]
    refine wpAnyH_take (i := 6) (v := ?vv6) (by rfl) (by kernel_rfl) (by kernel_rfl) (by kernel_rfl) (by intro _ _ _ h; exact h) (Or.inl ⟨by kernel_rfl, ?hy6⟩) (by assumption) ?rest6
    case hy6 =>
      intro w' hSw
      have hSw : Keeps _ w' := hSw
      clear hSw
      go_simp
      try with_reducible rfl
    change wpAnyH _ _ _ _ _ _ _ (Act.put _ (some 11) _) _
    try simp only [Act.put, List.setIfInBounds_toArray, List.set_cons_zero, List.set_cons_succ]
    refine wpAnyH_take (i := 8) (v := ?vv7) (by rfl) (by kernel_rfl) (by kernel_rfl) (by kernel_rfl) (by intro _ _ _ h; exact h) (Or.inl ⟨by kernel_rfl, ?hy7⟩) (by assumption) ?rest7
    case hy7 =>
      intro w' hSw
      have hSw : Keeps _ w' := hSw
      have h0 := keep1 hSw m0
      have h1 := keep1 hSw m1
      clear hSw
      go_simp
      try with_reducible rfl
    change wpAnyH _ _ _ _ _ _ _ (Act.put _ (some 13) _) _
    try simp only [Act.put, List.setIfInBounds_toArray, List.set_cons_zero, List.set_cons_succ]
    refine wpAnyH_ready (rs := [7]) (by kernel_rfl) (by simp) ?_
    refine AllReadyH.cons (o := _) rfl (fun K hK => ?_) AllReadyH.nil
    go_simp
    refine (HUS.out _ (HZ.out.trans hHeld)).mono ?_
    rintro e z2 ⟨rfl, hk⟩
    have hb : Keeps _ z2 := hHeld.trans hk
    have HZ := Lib.hid (HZ.out.trans hb)
    have m0 := keep1 hb m0
    have m1 := keep1 hb m1
    have HZ1 := Lib.hid (HZ1.out.trans hb)
    go_wp2_with fail
    refine hK.out _ _ hb (fun _ => ?_)
    clear hK K
    try simp only [Act.put, List.setIfInBounds_toArray, List.set_cons_zero, List.set_cons_succ]
    refine wpAnyH_more (S' := fun w' => Keeps z2 w') (fun _ h => hb.trans h) ?_
    clear hHeld hb hk
    have hHeld : Keeps z2 z2 := Keeps.refl _
    refine wpAnyH_ready (rs := [9]) (by kernel_rfl) (by simp) ?_
    refine AllReadyH.cons (o := _) rfl (fun K hK => ?_) AllReadyH.nil
    go_simp
    refine (HRU.out _ (HZ.out.trans hHeld)).mono ?_
    rintro e z3 ⟨rfl, hk⟩
    have hb : Keeps _ z3 := hHeld.trans hk
    have HZ := Lib.hid (HZ.out.trans hb)
    have m0 := keep1 hb m0
    have m1 := keep1 hb m1
    have HZ1 := Lib.hid (HZ1.out.trans hb)
    go_wp2_with fail
    refine hK.out _ _ hb (fun _ => ?_)
    clear hK K
    try simp only [Act.put, List.setIfInBounds_toArray, List.set_cons_zero, List.set_cons_succ]
    refine wpAnyH_more (S' := fun w' => Keeps z3 w') (fun _ h => hb.trans h) ?_
    clear hHeld hb hk
    have hHeld : Keeps z3 z3 := Keeps.refl _
    refine wpAnyH_take (i := 10) (v := ?vv8) (by rfl) (by kernel_rfl) (by kernel_rfl) (by kernel_rfl) (by intro _ _ _ h; exact h) (Or.inl ⟨by kernel_rfl, ?hy8⟩) (by assumption) ?rest8
    case hy8 =>
      intro w' hSw
      have hSw : Keeps _ w' := hSw
      clear hSw
      go_simp
      try with_reducible rfl
    change wpAnyH _ _ _ _ _ _ _ (Act.put _ (some 15) _) _
    try simp only [Act.put, List.setIfInBounds_toArray, List.set_cons_zero, List.set_cons_succ]
    refine wpAnyH_take (i := 11) (v := ?vv9) (by rfl) (by kernel_rfl) (by kernel_rfl) (by kernel_rfl) (by intro _ _ _ h; exact h) (Or.inl ⟨by kernel_rfl, ?hy9⟩) (by assumption) ?rest9
    case hy9 =>
      intro w' hSw
      have hSw : Keeps _ w' := hSw
      clear hSw
      go_simp
      try with_reducible rfl
    change wpAnyH _ _ _ _ _ _ _ (Act.put _ (some 16) _) _
    try simp only [Act.put, List.setIfInBounds_toArray, List.set_cons_zero, List.set_cons_succ]
    refine wpAnyH_take (i := 12) (v := ?vv10) (by rfl) (by kernel_rfl) (by kernel_rfl) (by kernel_rfl) (by intro _ _ _ h; exact h) (Or.inl ⟨by kernel_rfl, ?hy10⟩) (by assumption) ?rest10
    case hy10 =>
      intro w' hSw
      have hSw : Keeps _ w' := hSw
      clear hSw
      go_simp
      try with_reducible rfl
    change wpAnyH _ _ _ _ _ _ _ (Act.put _ (some 17) _) _
    try simp only [Act.put, List.setIfInBounds_toArray, List.set_cons_zero, List.set_cons_succ]
    refine wpAnyH_take (i := 13) (v := ?vv11) (by rfl) (by kernel_rfl) (by kernel_rfl) (by kernel_rfl) (by intro _ _ _ h; exact h) (Or.inl ⟨by kernel_rfl, ?hy11⟩) (by assumption) ?rest11
    case hy11 =>
      intro w' hSw
      have hSw : Keeps _ w' := hSw
      clear hSw
      go_simp
      try with_reducible rfl
    change wpAnyH _ _ _ _ _ _ _ (Act.put _ (some 18) _) _
    try simp only [Act.put, List.setIfInBounds_toArray, List.set_cons_zero, List.set_cons_succ]
    refine wpAnyH_take (i := 15) (v := ?vv12) (by rfl) (by kernel_rfl) (by kernel_rfl) (by kernel_rfl) (by intro _ _ _ h; exact h) (Or.inl ⟨by kernel_rfl, ?hy12⟩) (by assumption) ?rest12
    case hy12 =>
      intro w' hSw
      have hSw : Keeps _ w' := hSw
      clear hSw
      go_simp
      try with_reducible rfl
    change wpAnyH _ _ _ _ _ _ _ (Act.put _ (some 20) _) _
    try simp only [Act.put, List.setIfInBounds_toArray, List.set_cons_zero, List.set_cons_succ]
    refine wpAnyH_take (i := 16) (v := ?vv13) (by rfl) (by kernel_rfl) (by kernel_rfl) (by kernel_rfl) (by intro _ _ _ h; exact h) (Or.inl ⟨by kernel_rfl, ?hy13⟩) (by assumption) ?rest13
    case hy13 =>
      intro w' hSw
      have hSw : Keeps _ w' := hSw
      have h0 := keep1 hSw m0
      clear hSw
      go_simp
      try with_reducible rfl
    change wpAnyH _ _ _ _ _ _ _ (Act.put _ (some 21) _) _
    try simp only [Act.put, List.setIfInBounds_toArray, List.set_cons_zero, List.set_cons_succ]
    refine wpAnyH_ready (rs := [14]) (by kernel_rfl) (by simp) ?_
    refine AllReadyH.cons (o := _) rfl (fun K hK => ?_) AllReadyH.nil
    go_simp
    refine (HLI.out _ (HZ.out.trans hHeld) true).mono ?_
    rintro e z4 ⟨v4, rfl, hen, hk⟩
    have hb : Keeps _ z4 := hHeld.trans hk
    obtain ⟨p4, c4, rfl, -, -⟩ := Frm.ownsRow_form hen
    have HE4 := Lib.hid hen.r
    clear hen
    have HZ := Lib.hid (HZ.out.trans hb)
    have m0 := keep1 hb m0
    have m1 := keep1 hb m1
    have HZ1 := Lib.hid (HZ1.out.trans hb)
    go_wp2_with fail
    refine hK.out _ _ hb (fun _ => ?_)
    clear hK K
    try simp only [Act.put, List.setIfInBounds_toArray, List.set_cons_zero, List.set_cons_succ]
    refine wpAnyH_more (S' := fun w' => Keeps z4 w') (fun _ h => hb.trans h) ?_
    clear hHeld hb hk
    have hHeld : Keeps z4 z4 := Keeps.refl _
    refine wpAnyH_ready (rs := [17]) (by kernel_rfl) (by simp) ?_
    refine AllReadyH.cons (o := _) rfl (fun K hK => ?_) AllReadyH.nil
    go_simp
    refine (sameEnts_any _ (L := filt true L) (HE4.out.keeps hHeld) (by rw [filt_true]; exact HV.out.keeps (HZ.out.trans hHeld))).mono ?_
    rintro e z5 ⟨rfl, hk⟩
    have hb : Keeps _ z5 := hHeld.trans hk
    have HZ := Lib.hid (HZ.out.trans hb)
    have m0 := keep1 hb m0
    have m1 := keep1 hb m1
    have HZ1 := Lib.hid (HZ1.out.trans hb)
    go_wp2_with fail
    refine hK.out _ _ hb (fun _ => ?_)
    clear hK K
    try simp only [Act.put, List.setIfInBounds_toArray, List.set_cons_zero, List.set_cons_succ]
    refine wpAnyH_more (S' := fun w' => Keeps z5 w') (fun _ h => hb.trans h) ?_
    clear hHeld hb hk
    have hHeld : Keeps z5 z5 := Keeps.refl _
    refine wpAnyH_take (i := 18) (v := ?vv14) (by rfl) (by kernel_rfl) (by kernel_rfl) (by kernel_rfl) (by intro _ _ _ h; exact h) (Or.inl ⟨by kernel_rfl, ?hy14⟩) (by assumption) ?rest14
    case hy14 =>
      intro w' hSw
      have hSw : Keeps _ w' := hSw
      clear hSw
      go_simp
      try with_reducible rfl
    change wpAnyH _ _ _ _ _ _ _ (Act.put _ (some 23) _) _
    try simp only [Act.put, List.setIfInBounds_toArray, List.set_cons_zero, List.set_cons_succ]
    refine wpAnyH_take (i := 19) (v := ?vv15) (by rfl) (by kernel_rfl) (by kernel_rfl) (by kernel_rfl) (by intro _ _ _ h; exact h) (Or.inl ⟨by kernel_rfl, ?hy15⟩) (by assumption) ?rest15
    case hy15 =>
      intro w' hSw
      have hSw : Keeps _ w' := hSw
      clear hSw
      go_simp
      try with_reducible rfl
    change wpAnyH _ _ _ _ _ _ _ (Act.put _ (some 24) _) _
    try simp only [Act.put, List.setIfInBounds_toArray, List.set_cons_zero, List.set_cons_succ]
    refine wpAnyH_take (i := 20) (v := ?vv16) (by rfl) (by kernel_rfl) (by kernel_rfl) (by kernel_rfl) (by intro _ _ _ h; exact h) (Or.inl ⟨by kernel_rfl, ?hy16⟩) (by assumption) ?rest16
    case hy16 =>
      intro w' hSw
      have hSw : Keeps _ w' := hSw
      clear hSw
      go_simp
      try with_reducible rfl
    change wpAnyH _ _ _ _ _ _ _ (Act.put _ (some 25) _) _
    try simp only [Act.put, List.setIfInBounds_toArray, List.set_cons_zero, List.set_cons_succ]
    refine wpAnyH_take (i := 21) (v := ?vv17) (by rfl) (by kernel_rfl) (by kernel_rfl) (by kernel_rfl) (by intro _ _ _ h; exact h) (Or.inl ⟨by kernel_rfl, ?hy17⟩) (by assumption) ?rest17
    case hy17 =>
      intro w' hSw
      have hSw : Keeps _ w' := hSw
      clear hSw
      go_simp
      try with_reducible rfl
    change wpAnyH _ _ _ _ _ _ _ (Act.put _ (some 26) _) _
    try simp only [Act.put, List.setIfInBounds_toArray, List.set_cons_zero, List.set_cons_succ]
    refine wpAnyH_take (i := 23) (v := ?vv18) (by rfl) (by kernel_rfl) (by kernel_rfl) (by kernel_rfl) (by intro _ _ _ h; exact h) (Or.inl ⟨by kernel_rfl, ?hy18⟩) (by assumption) ?rest18
    case hy18 =>
      intro w' hSw
      have hSw : Keeps _ w' := hSw
      have h0 := keep1 hSw m0
      have h1 := keep1 hSw m1
      clear hSw
      go_simp
      try with_reducible rfl
    change wpAnyH _ _ _ _ _ _ _ (Act.put _ (some 28) _) _
    try simp only [Act.put, List.setIfInBounds_toArray, List.set_cons_zero, List.set_cons_succ]
    refine wpAnyH_ready (rs := [22]) (by kernel_rfl) (by simp) ?_
    refine AllReadyH.cons (o := _) rfl (fun K hK => ?_) AllReadyH.nil
    go_simp
    refine (HLI.out _ (HZ.out.trans hHeld) false).mono ?_
    rintro e z6 ⟨v6, rfl, hen, hk⟩
    have hb : Keeps _ z6 := hHeld.trans hk
    obtain ⟨p6, c6, rfl, -, -⟩ := Frm.ownsRow_form hen
    have HE6 := Lib.hid hen.r
    clear hen
    have HZ := Lib.hid (HZ.out.trans hb)
    have m0 := keep1 hb m0
    have m1 := keep1 hb m1
    have HZ1 := Lib.hid (HZ1.out.trans hb)
    go_wp2_with fail
    refine hK.out _ _ hb (fun _ => ?_)
    clear hK K
    try simp only [Act.put, List.setIfInBounds_toArray, List.set_cons_zero, List.set_cons_succ]
    refine wpAnyH_more (S' := fun w' => Keeps z6 w') (fun _ h => hb.trans h) ?_
    clear hHeld hb hk
    have hHeld : Keeps z6 z6 := Keeps.refl _
    refine wpAnyH_ready (rs := [24]) (by kernel_rfl) (by simp) ?_
    refine AllReadyH.cons (o := _) rfl (fun K hK => ?_) AllReadyH.nil
    go_simp
    refine (HRL.out _ (HZ.out.trans hHeld) false).mono ?_
    rintro e z7 ⟨v7, rfl, hen, hk⟩
    have hb : Keeps _ z7 := hHeld.trans hk
    obtain ⟨p7, c7, rfl, -, -⟩ := Frm.ownsRow_form hen
    have HE7 := Lib.hid hen.r
    clear hen
    have HZ := Lib.hid (HZ.out.trans hb)
    have HE6 := Lib.hid (HE6.out.keeps hb)
    have HZ1 := Lib.hid (HZ1.out.trans hb)
    go_wp2_with fail
    refine hK.out _ _ hb (fun _ => ?_)
    clear hK K
    try simp only [Act.put, List.setIfInBounds_toArray, List.set_cons_zero, List.set_cons_succ]
    refine wpAnyH_more (S' := fun w' => Keeps z7 w') (fun _ h => hb.trans h) ?_
    clear hHeld hb hk
    have hHeld : Keeps z7 z7 := Keeps.refl _
    refine wpAnyH_ready (rs := [25]) (by kernel_rfl) (by simp) ?_
    refine AllReadyH.cons (o := _) rfl (fun K hK => ?_) AllReadyH.nil
    go_simp
    refine (sameEnts_any _ (L := filt false L) (HE6.out.keeps hHeld) (HE7.out.keeps hHeld)).mono ?_
    rintro e z8 ⟨rfl, hk⟩
    have hb : Keeps _ z8 := hHeld.trans hk
    have HZ1 := Lib.hid (HZ1.out.trans hb)
    go_wp2_with fail
    refine hK.out _ _ hb (fun _ => ?_)
    clear hK K
    try simp only [Act.put, List.setIfInBounds_toArray, List.set_cons_zero, List.set_cons_succ]
    refine wpAnyH_more (S' := fun w' => Keeps z8 w') (fun _ h => hb.trans h) ?_
    clear hHeld hb hk
    have hHeld : Keeps z8 z8 := Keeps.refl _
    refine wpAnyH_take (i := 26) (v := ?vv19) (by rfl) (by kernel_rfl) (by kernel_rfl) (by kernel_rfl) (by intro _ _ _ h; exact h) (Or.inl ⟨by kernel_rfl, ?hy19⟩) (by assumption) ?rest19
    case hy19 =>
      intro w' hSw
      have hSw : Keeps _ w' := hSw
      clear hSw
      go_simp
      try with_reducible rfl
    change wpAnyH _ _ _ _ _ _ _ (Act.put _ (some 31) _) _
    try simp only [Act.put, List.setIfInBounds_toArray, List.set_cons_zero, List.set_cons_succ]
    refine wpAnyH_take (i := 27) (v := ?vv20) (by rfl) (by kernel_rfl) (by kernel_rfl) (by kernel_rfl) (by intro _ _ _ h; exact h) (Or.inl ⟨by kernel_rfl, ?hy20⟩) (by assumption) ?rest20
    case hy20 =>
      intro w' hSw
      have hSw : Keeps _ w' := hSw
      clear hSw
      go_simp
      try with_reducible rfl
    change wpAnyH _ _ _ _ _ _ _ (Act.put _ (some 32) _) _
    try simp only [Act.put, List.setIfInBounds_toArray, List.set_cons_zero, List.set_cons_succ]
    refine wpAnyH_done (by kernel_rfl) ?_ _
    refine NoPanic.normal ?_
    go_wp2_with fail
    go_meet
    exact ⟨rfl, HZ1.out.trans hHeld⟩
  case rest =>
  obtain ⟨rfl, hkc⟩ := hcut
  obtain ⟨w2, rfl⟩ : ∃ z : World, z = wc := ⟨_, rfl⟩
  have HZ := Lib.hid (HK1.out.trans hkc)
  have m0 := keep1 hkc m0
  have m1 := keep1 hkc m1
  clear hkc
  go_upto_region 3 with fail
  refine wp_region_noPanic ?_
  refine wp_region_held_drew (S := fun w' => Keeps (w2) w') (by kernel_rfl) ((Keeps.refl _).drew) (fun _ => ?_)
  have hHeld : Keeps (w2) (w2).drew := (Keeps.refl _).drew
  refine wpAnyH_take (i := 0) (v := ?vv21) (by rfl) (by kernel_rfl) (by kernel_rfl) (by kernel_rfl) (by intro _ _ _ h; exact h) (Or.inl ⟨by kernel_rfl, ?hy21⟩) (by assumption) ?rest21
  case hy21 =>
    intro w' hSw
    have hSw : Keeps _ w' := hSw
    clear hSw
    go_simp
    try with_reducible rfl
  change wpAnyH _ _ _ _ _ _ _ (Act.put _ (some 33) _) _
  try simp only [Act.put, List.setIfInBounds_toArray, List.set_cons_zero, List.set_cons_succ]
  refine wpAnyH_take (i := 2) (v := ?vv22) (by rfl) (by kernel_rfl) (by kernel_rfl) (by kernel_rfl) (by intro _ _ _ h; exact h) (Or.inl ⟨by kernel_rfl, ?hy22⟩) (by assumption) ?rest22
  case hy22 =>
    intro w' hSw
    have hSw : Keeps _ w' := hSw
    have h0 := keep1 hSw m0
    have h1 := keep1 hSw m1
    clear hSw
    go_simp
    try with_reducible rfl
  change wpAnyH _ _ _ _ _ _ _ (Act.put _ (some 35) _) _
  try simp only [Act.put, List.setIfInBounds_toArray, List.set_cons_zero, List.set_cons_succ]
  refine wpAnyH_ready (rs := [1]) (by kernel_rfl) (by simp) ?_
  refine AllReadyH.cons (o := _) rfl (fun K hK => ?_) AllReadyH.nil
  go_simp
  refine (HRE.out _ (HZ.out.trans hHeld) true).mono ?_
  rintro e z1 ⟨v1, rfl, hen, hk⟩
  have hb : Keeps _ z1 := hHeld.trans hk
  obtain ⟨p1, c1, rfl, -, -⟩ := Frm.ownsRow_form hen
  have HE1 := Lib.hid hen
  clear hen
  have HZ := Lib.hid (HZ.out.trans hb)
  have m0 := keep1 hb m0
  have m1 := keep1 hb m1
  go_wp2_with fail
  refine hK.out _ _ hb (fun _ => ?_)
  clear hK K
  try simp only [Act.put, List.setIfInBounds_toArray, List.set_cons_zero, List.set_cons_succ]
  refine wpAnyH_more (S' := fun w' => Keeps z1 w') (fun _ h => hb.trans h) ?_
  clear hHeld hb hk
  have hHeld : Keeps z1 z1 := Keeps.refl _
  refine wpAnyH_ready (rs := [3]) (by kernel_rfl) (by simp) ?_
  refine AllReadyH.cons (o := _) rfl (fun K hK => ?_) AllReadyH.nil
  go_simp
  refine (HRR.out _ (HZ.out.trans hHeld) true).mono ?_
  rintro e z2 ⟨v2, rfl, hen, hk⟩
  have hb : Keeps _ z2 := hHeld.trans hk
  obtain ⟨p2, c2, rfl, -, -⟩ := Frm.ownsRow_form hen
  have HE2 := Lib.hid hen
  clear hen
  have HE1 := Lib.hid (HE1.out.keeps hb)
  have HZ := Lib.hid (HZ.out.trans hb)
  have m0 := keep1 hb m0
  have m1 := keep1 hb m1
  go_wp2_with fail
  refine hK.out _ _ hb (fun _ => ?_)
  clear hK K
  try simp only [Act.put, List.setIfInBounds_toArray, List.set_cons_zero, List.set_cons_succ]
  refine wpAnyH_more (S' := fun w' => Keeps z2 w') (fun _ h => hb.trans h) ?_
  clear hHeld hb hk
  have hHeld : Keeps z2 z2 := Keeps.refl _
  refine wpAnyH_ready (rs := [4]) (by kernel_rfl) (by simp) ?_
  refine AllReadyH.cons (o := _) rfl (fun K hK => ?_) AllReadyH.nil
  go_simp
  refine (sameRecs_any _ (HE1.out.keeps hHeld) (HE2.out.keeps hHeld) (recsOf_data _)).mono ?_
  rintro e z3 ⟨rfl, hk⟩
  have hb : Keeps _ z3 := hHeld.trans hk
  have HZ := Lib.hid (HZ.out.trans hb)
  have m0 := keep1 hb m0
  have m1 := keep1 hb m1
  go_wp2_with fail
  refine hK.out _ _ hb (fun _ => ?_)
  clear hK K
  try simp only [Act.put, List.setIfInBounds_toArray, List.set_cons_zero, List.set_cons_succ]
  refine wpAnyH_more (S' := fun w' => Keeps z3 w') (fun _ h => hb.trans h) ?_
  clear hHeld hb hk
  have hHeld : Keeps z3 z3 := Keeps.refl _
  refine wpAnyH_take (i := 5) (v := ?vv23) (by rfl) (by kernel_rfl) (by kernel_rfl) (by kernel_rfl) (by intro _ _ _ h; exact h) (Or.inl ⟨by kernel_rfl, ?hy23⟩) (by assumption) ?rest23
  case hy23 =>
    intro w' hSw
    have hSw : Keeps _ w' := hSw
    clear hSw
    go_simp
    try with_reducible rfl
  change wpAnyH _ _ _ _ _ _ _ (Act.put _ (some 38) _) _
  try simp only [Act.put, List.setIfInBounds_toArray, List.set_cons_zero, List.set_cons_succ]
  refine wpAnyH_take (i := 6) (v := ?vv24) (by rfl) (by kernel_rfl) (by kernel_rfl) (by kernel_rfl) (by intro _ _ _ h; exact h) (Or.inl ⟨by kernel_rfl, ?hy24⟩) (by assumption) ?rest24
  case hy24 =>
    intro w' hSw
    have hSw : Keeps _ w' := hSw
    clear hSw
    go_simp
    try with_reducible rfl
  change wpAnyH _ _ _ _ _ _ _ (Act.put _ (some 39) _) _
  try simp only [Act.put, List.setIfInBounds_toArray, List.set_cons_zero, List.set_cons_succ]
  refine wpAnyH_take (i := 8) (v := ?vv25) (by rfl) (by kernel_rfl) (by kernel_rfl) (by kernel_rfl) (by intro _ _ _ h; exact h) (Or.inl ⟨by kernel_rfl, ?hy25⟩) (by assumption) ?rest25
  case hy25 =>
    intro w' hSw
    have hSw : Keeps _ w' := hSw
    have h0 := keep1 hSw m0
    have h1 := keep1 hSw m1
    clear hSw
    go_simp
    try with_reducible rfl
  change wpAnyH _ _ _ _ _ _ _ (Act.put _ (some 41) _) _
  try simp only [Act.put, List.setIfInBounds_toArray, List.set_cons_zero, List.set_cons_succ]
  refine wpAnyH_ready (rs := [7]) (by kernel_rfl) (by simp) ?_
  refine AllReadyH.cons (o := _) rfl (fun K hK => ?_) AllReadyH.nil
  go_simp
  refine (HRE.out _ (HZ.out.trans hHeld) false).mono ?_
  rintro e z4 ⟨v4, rfl, hen, hk⟩
  have hb : Keeps _ z4 := hHeld.trans hk
  obtain ⟨p4, c4, rfl, -, -⟩ := Frm.ownsRow_form hen
  have HE4 := Lib.hid hen
  clear hen
  have HZ := Lib.hid (HZ.out.trans hb)
  have m0 := keep1 hb m0
  have m1 := keep1 hb m1
  go_wp2_with fail
  refine hK.out _ _ hb (fun _ => ?_)
  clear hK K
  try simp only [Act.put, List.setIfInBounds_toArray, List.set_cons_zero, List.set_cons_succ]
  refine wpAnyH_more (S' := fun w' => Keeps z4 w') (fun _ h => hb.trans h) ?_
  clear hHeld hb hk
  have hHeld : Keeps z4 z4 := Keeps.refl _
  refine wpAnyH_ready (rs := [9]) (by kernel_rfl) (by simp) ?_
  refine AllReadyH.cons (o := _) rfl (fun K hK => ?_) AllReadyH.nil
  go_simp
  refine (HRR.out _ (HZ.out.trans hHeld) false).mono ?_
  rintro e z5 ⟨v5, rfl, hen, hk⟩
  have hb : Keeps _ z5 := hHeld.trans hk
  obtain ⟨p5, c5, rfl, -, -⟩ := Frm.ownsRow_form hen
  have HE5 := Lib.hid hen
  clear hen
  have HE4 := Lib.hid (HE4.out.keeps hb)
  have HZ := Lib.hid (HZ.out.trans hb)
  go_wp2_with fail
  refine hK.out _ _ hb (fun _ => ?_)
  clear hK K
  try simp only [Act.put, List.setIfInBounds_toArray, List.set_cons_zero, List.set_cons_succ]
  refine wpAnyH_more (S' := fun w' => Keeps z5 w') (fun _ h => hb.trans h) ?_
  clear hHeld hb hk
  have hHeld : Keeps z5 z5 := Keeps.refl _
  refine wpAnyH_ready (rs := [10]) (by kernel_rfl) (by simp) ?_
  refine AllReadyH.cons (o := _) rfl (fun K hK => ?_) AllReadyH.nil
  go_simp
  refine (sameRecs_any _ (HE4.out.keeps hHeld) (HE5.out.keeps hHeld) (recsOf_data _)).mono ?_
  rintro e z6 ⟨rfl, hk⟩
  have hb : Keeps _ z6 := hHeld.trans hk
  have HZ := Lib.hid (HZ.out.trans hb)
  go_wp2_with fail
  refine hK.out _ _ hb (fun _ => ?_)
  clear hK K
  try simp only [Act.put, List.setIfInBounds_toArray, List.set_cons_zero, List.set_cons_succ]
  refine wpAnyH_more (S' := fun w' => Keeps z6 w') (fun _ h => hb.trans h) ?_
  clear hHeld hb hk
  have hHeld : Keeps z6 z6 := Keeps.refl _
  refine wpAnyH_take (i := 11) (v := ?vv26) (by rfl) (by kernel_rfl) (by kernel_rfl) (by kernel_rfl) (by intro _ _ _ h; exact h) (Or.inl ⟨by kernel_rfl, ?hy26⟩) (by assumption) ?rest26
  case hy26 =>
    intro w' hSw
    have hSw : Keeps _ w' := hSw
    clear hSw
    go_simp
    try with_reducible rfl
  change wpAnyH _ _ _ _ _ _ _ (Act.put _ (some 44) _) _
  try simp only [Act.put, List.setIfInBounds_toArray, List.set_cons_zero, List.set_cons_succ]
  refine wpAnyH_take (i := 12) (v := ?vv27) (by rfl) (by kernel_rfl) (by kernel_rfl) (by kernel_rfl) (by intro _ _ _ h; exact h) (Or.inl ⟨by kernel_rfl, ?hy27⟩) (by assumption) ?rest27
  case hy27 =>
    intro w' hSw
    have hSw : Keeps _ w' := hSw
    clear hSw
    go_simp
    try with_reducible rfl
  change wpAnyH _ _ _ _ _ _ _ (Act.put _ (some 4) _) _
  try simp only [Act.put, List.setIfInBounds_toArray, List.set_cons_zero, List.set_cons_succ]
  refine wpAnyH_done (by kernel_rfl) ?_ _
  refine NoPanic.normal ?_
  go_wp2_with fail
  go_ret
  exact ⟨rfl, HZ.out.trans hHeld⟩
end Mbx
end Go.Proofs.Ytohchhgheeolpaa

/- mbox.Clone; ref13.SameInts. -/
namespace Go.Proofs.Ytohchhgheeolpaa
open Go.RowKit Go.Shelf
namespace Mbx
open Rcd Go.Maps

set_option maxRecDepth 100000 in
set_option maxHeartbeats 2000000 in
theorem sameInts_any (w : World) {ba bb : Nat} {va vb : Value} {L : List Int} (ha : Own w ba 3 va (L.map encZ)) (hb : Own w bb 3 vb (L.map encZ)) : Calls Try.prog 63 #[va, vb] w fun e w' => e = .returned (.bool true) ∧ Keeps w w' := by
  obtain ⟨pa, ca, rfl, hc0, hc1⟩ := ha.row.form
  obtain ⟨pb, cb, rfl, hc2, hc3⟩ := hb.row.form
  rw [List.length_map] at *
  have HA := Lib.hid ha
  have HB := Lib.hid hb
  have : maxLen = 9223372036854775807 := rfl
  clear ha hb
  go_enter Try.func63, Try.ntmps63
  go_wp2_with fail
  go_loopw [5] (fun i wr => ∃ j : Nat, i = .int .i64 (j : Int) ∧ j ≤ L.length ∧ Hid (Keeps w wr)) (fun i _ => L.length - (RowKit.intOf i).toNat)
  case atStart => exact ⟨0, rfl, Nat.zero_le _, Lib.hid (Keeps.refl _)⟩
  case round =>
    obtain ⟨j, rfl, hj, HK⟩ := hrel
    by_cases hlt : j < L.length
    · obtain ⟨ga, ca', hv, -, -, -⟩ := Own.form HA.out (by simp; omega)
      simp only [List.length_map, Value.slice.injEq] at hv
      obtain ⟨rfl, -, rfl⟩ := hv
      obtain ⟨gb, cb', hv, -, -, -⟩ := Own.form HB.out (by simp; omega)
      simp only [List.length_map, Value.slice.injEq] at hv
      obtain ⟨rfl, -, rfl⟩ := hv
      have a0 : wr.cell? ⟨ga, j, none⟩ = some (.int .i64 L[j]) := Own.cellAt (HA.out.keeps HK.out) j _ (by simp [List.getElem?_eq_getElem hlt])
      have b0 : wr.cell? ⟨gb, j, none⟩ = some (.int .i64 L[j]) := Own.cellAt (HB.out.keeps HK.out) j _ (by simp [List.getElem?_eq_getElem hlt])
      generalize L[j] = E at *
      go_wp2_with fail
      go_quiet (fail)
      go_wp2_with fail
      go_roundw
      case rel => exact ⟨j + 1, by simp, by omega, Lib.hid (HK.out.trans (by repeat (first | exact Keeps.refl _ | refine Keeps.drewN ?_ _)))⟩
      case measure =>
        simp only [RowKit.intOf]
        omega
    · go_wp2_with fail
      go_ret
      exact ⟨rfl, HK.out⟩
theorem cloneEnt_any (w : World) (b n : Nat) (D : DataW Unit) (h : w.ownsMap Try.prog 3 entElem b n D) : Calls Try.prog 147 #[.map (some b)] w fun e w' => e = .returned (.map (some w.heap.size)) ∧ w'.ownsMap Try.prog 3 entElem w.heap.size n D ∧ Keeps w w' :=
  (AnyW.maps_Clone_owns Try.cloneEnt 3 entElem b n D w h).mono (fun e w' h => ⟨h.1, h.2.1, h.2.2.2⟩)
theorem cloneInt_any (w : World) (b n : Nat) (D : DataW Unit) (h : w.ownsMap Try.prog 3 intElem b n D) : Calls Try.prog 148 #[.map (some b)] w fun e w' => e = .returned (.map (some w.heap.size)) ∧ w'.ownsMap Try.prog 3 intElem w.heap.size n D ∧ Keeps w w' :=
  (AnyW.maps_Clone_owns Try.cloneInt 3 intElem b n D w h).mono (fun e w' h => ⟨h.1, h.2.1, h.2.2.2⟩)
def CloneDid (W : World) (n : Nat) (m : Box) (e : Ending) (w' : World) : Prop := ∃ g b1 b2, e = .returned (.pointer (some ⟨g, 0, none⟩)) ∧ W.heap.size ≤ g ∧ W.heap.size ≤ b1 ∧ W.heap.size ≤ b2 ∧ BoxAt w' g b1 b2 n m ∧ Keeps W w'

set_option maxRecDepth 100000 in
set_option maxHeartbeats 2000000 in
theorem clone_any (w : World) {g b1 b2 n : Nat} {m : Box} (h : BoxAt w g b1 b2 n m) : Calls Try.prog 62 #[.pointer (some ⟨g, 0, none⟩)] w (CloneDid w n m) := by
  obtain ⟨c0, c1, c2, c3, c4⟩ := h.cells
  obtain ⟨D1, h1, r1⟩ := h.ent
  obtain ⟨D2, h2, r2⟩ := h.org
  have HC1 := Lib.hid (fun w' (k : Keeps w w') => cloneEnt_any w' b1 n D1 (map_keeps h1 k))
  have HC2 := Lib.hid (fun w' (k : Keeps w w') => cloneInt_any w' b2 n D2 (map_keeps h2 k))
  have HR := Lib.hid (And.intro r1 r2)
  have HN := Lib.hid h.blk
  unfold CloneDid
  clear h h1 h2 r1 r2
  go_enter Try.func62, Try.ntmps62
  go_upto_region 1 with fail
  refine wp_region_noPanic ?_
  refine wp_region_held_drew (S := fun w' => Keeps (w) w') (by kernel_rfl) ((Keeps.refl _).drew) (fun _ => ?_)
  have hHeld : Keeps (w) (w).drew := (Keeps.refl _).drew
  refine wpAnyH_take (i := 0) (v := ?vv1) (by rfl) (by kernel_rfl) (by kernel_rfl) (by kernel_rfl) (by intro _ _ _ h; exact h) (Or.inl ⟨by kernel_rfl, ?hy1⟩) (by assumption) ?rest1
  case hy1 =>
    intro w' hSw
    have hSw : Keeps _ w' := hSw
    clear hSw
    go_simp
    try with_reducible rfl
  change wpAnyH _ _ _ _ _ _ _ (Act.put _ (some 3) _) _
  try simp only [Act.put, List.setIfInBounds_toArray, List.set_cons_zero, List.set_cons_succ]
  refine wpAnyH_take (i := 1) (v := ?vv2) (by rfl) (by kernel_rfl) (by kernel_rfl) (by kernel_rfl) (by intro _ _ _ h; exact h) (Or.inl ⟨by kernel_rfl, ?hy2⟩) (by assumption) ?rest2
  case hy2 =>
    intro w' hSw
    have hSw : Keeps _ w' := hSw
    clear hSw
    go_simp
    try with_reducible rfl
  change wpAnyH _ _ _ _ _ _ _ (Act.put _ (some 4) _) _
  try simp only [Act.put, List.setIfInBounds_toArray, List.set_cons_zero, List.set_cons_succ]
  refine wpAnyH_take (i := 2) (v := ?vv3) (by rfl) (by kernel_rfl) (by kernel_rfl) (by kernel_rfl) (by intro _ _ _ h; exact h) (Or.inl ⟨by kernel_rfl, ?hy3⟩) (by assumption) ?rest3
  case hy3 =>
    intro w' hSw
    have hSw : Keeps _ w' := hSw
    clear hSw
    go_simp
    try with_reducible rfl
  change wpAnyH _ _ _ _ _ _ _ (Act.put _ (some 5) _) _
  try simp only [Act.put, List.setIfInBounds_toArray, List.set_cons_zero, List.set_cons_succ]
  refine wpAnyH_take (i := 3) (v := ?vv4) (by rfl) (by kernel_rfl) (by kernel_rfl) (by kernel_rfl) (by intro _ _ _ h; exact h) (Or.inl ⟨by kernel_rfl, ?hy4⟩) (by assumption) ?rest4
  case hy4 =>
    intro w' hSw
    have hSw : Keeps _ w' := hSw
    have h0 := keep1 hSw c0
    clear hSw
    go_simp
    try with_reducible rfl
  change wpAnyH _ _ _ _ _ _ _ (Act.put _ (some 6) _) _
  try simp only [Act.put, List.setIfInBounds_toArray, List.set_cons_zero, List.set_cons_succ]
  refine wpAnyH_take (i := 5) (v := ?vv5) (by rfl) (by kernel_rfl) (by kernel_rfl) (by kernel_rfl) (by intro _ _ _ h; exact h) (Or.inl ⟨by kernel_rfl, ?hy5⟩) (by assumption) ?rest5
  case hy5 =>
    intro w' hSw
    have hSw : Keeps _ w' := hSw
    clear hSw
    go_simp
    try with_reducible rfl
  change wpAnyH _ _ _ _ _ _ _ (Act.put _ (some 8) _) _
  try simp only [Act.put, List.setIfInBounds_toArray, List.set_cons_zero, List.set_cons_succ]
  refine wpAnyH_take (i := 6) (v := ?vv6) (by rfl) (by kernel_rfl) (by kernel_rfl) (by kernel_rfl) (by intro _ _ _ h; exact h) (Or.inl ⟨by kernel_rfl, ?hy6⟩) (by assumption) ?rest6
  case hy6 =>
    intro w' hSw
    have hSw : Keeps _ w' := hSw
    clear hSw
    go_simp
    try with_reducible rfl
  change wpAnyH _ _ _ _ _ _ _ (Act.put _ (some 9) _) _
  try simp only [Act.put, List.setIfInBounds_toArray, List.set_cons_zero, List.set_cons_succ]
  refine wpAnyH_take (i := 7) (v := ?vv7) (by rfl) (by kernel_rfl) (by kernel_rfl) (by kernel_rfl) (by intro _ _ _ h; exact h) (Or.inl ⟨by kernel_rfl, ?hy7⟩) (by assumption) ?rest7
  case hy7 =>
    intro w' hSw
    have hSw : Keeps _ w' := hSw
    clear hSw
    go_simp
    try with_reducible rfl
  change wpAnyH _ _ _ _ _ _ _ (Act.put _ (some 10) _) _
  try simp only [Act.put, List.setIfInBounds_toArray, List.set_cons_zero, List.set_cons_succ]
  refine wpAnyH_take (i := 8) (v := ?vv8) (by rfl) (by kernel_rfl) (by kernel_rfl) (by kernel_rfl) (by intro _ _ _ h; exact h) (Or.inl ⟨by kernel_rfl, ?hy8⟩) (by assumption) ?rest8
  case hy8 =>
    intro w' hSw
    have hSw : Keeps _ w' := hSw
    have h0 := keep1 hSw c1
    clear hSw
    go_simp
    try with_reducible rfl
  change wpAnyH _ _ _ _ _ _ _ (Act.put _ (some 11) _) _
  try simp only [Act.put, List.setIfInBounds_toArray, List.set_cons_zero, List.set_cons_succ]
  refine wpAnyH_take (i := 10) (v := ?vv9) (by rfl) (by kernel_rfl) (by kernel_rfl) (by kernel_rfl) (by intro _ _ _ h; exact h) (Or.inl ⟨by kernel_rfl, ?hy9⟩) (by assumption) ?rest9
  case hy9 =>
    intro w' hSw
    have hSw : Keeps _ w' := hSw
    clear hSw
    go_simp
    try with_reducible rfl
  change wpAnyH _ _ _ _ _ _ _ (Act.put _ (some 13) _) _
  try simp only [Act.put, List.setIfInBounds_toArray, List.set_cons_zero, List.set_cons_succ]
  refine wpAnyH_take (i := 11) (v := ?vv10) (by rfl) (by kernel_rfl) (by kernel_rfl) (by kernel_rfl) (by intro _ _ _ h; exact h) (Or.inl ⟨by kernel_rfl, ?hy10⟩) (by assumption) ?rest10
  case hy10 =>
    intro w' hSw
    have hSw : Keeps _ w' := hSw
    clear hSw
    go_simp
    try with_reducible rfl
  change wpAnyH _ _ _ _ _ _ _ (Act.put _ (some 14) _) _
  try simp only [Act.put, List.setIfInBounds_toArray, List.set_cons_zero, List.set_cons_succ]
  refine wpAnyH_take (i := 12) (v := ?vv11) (by rfl) (by kernel_rfl) (by kernel_rfl) (by kernel_rfl) (by intro _ _ _ h; exact h) (Or.inl ⟨by kernel_rfl, ?hy11⟩) (by assumption) ?rest11
  case hy11 =>
    intro w' hSw
    have hSw : Keeps _ w' := hSw
    clear hSw
    go_simp
    try with_reducible rfl
  change wpAnyH _ _ _ _ _ _ _ (Act.put _ (some 15) _) _
  try simp only [Act.put, List.setIfInBounds_toArray, List.set_cons_zero, List.set_cons_succ]
  refine wpAnyH_take (i := 13) (v := ?vv12) (by rfl) (by kernel_rfl) (by kernel_rfl) (by kernel_rfl) (by intro _ _ _ h; exact h) (Or.inl ⟨by kernel_rfl, ?hy12⟩) (by assumption) ?rest12
  case hy12 =>
    intro w' hSw
    have hSw : Keeps _ w' := hSw
    have h0 := keep1 hSw c2
    clear hSw
    go_simp
    try with_reducible rfl
  change wpAnyH _ _ _ _ _ _ _ (Act.put _ (some 16) _) _
  try simp only [Act.put, List.setIfInBounds_toArray, List.set_cons_zero, List.set_cons_succ]
  refine wpAnyH_take (i := 14) (v := ?vv13) (by rfl) (by kernel_rfl) (by kernel_rfl) (by kernel_rfl) (by intro _ _ _ h; exact h) (Or.inl ⟨by kernel_rfl, ?hy13⟩) (by assumption) ?rest13
  case hy13 =>
    intro w' hSw
    have hSw : Keeps _ w' := hSw
    clear hSw
    go_simp
    try with_reducible rfl
  change wpAnyH _ _ _ _ _ _ _ (Act.put _ (some 17) _) _
  try simp only [Act.put, List.setIfInBounds_toArray, List.set_cons_zero, List.set_cons_succ]
  refine wpAnyH_take (i := 15) (v := ?vv14) (by rfl) (by kernel_rfl) (by kernel_rfl) (by kernel_rfl) (by intro _ _ _ h; exact h) (Or.inl ⟨by kernel_rfl, ?hy14⟩) (by assumption) ?rest14
  case hy14 =>
    intro w' hSw
    have hSw : Keeps _ w' := hSw
    clear hSw
    go_simp
    try with_reducible rfl
  change wpAnyH _ _ _ _ _ _ _ (Act.put _ (some 18) _) _
  try simp only [Act.put, List.setIfInBounds_toArray, List.set_cons_zero, List.set_cons_succ]
  refine wpAnyH_take (i := 16) (v := ?vv15) (by rfl) (by kernel_rfl) (by kernel_rfl) (by kernel_rfl) (by intro _ _ _ h; exact h) (Or.inl ⟨by kernel_rfl, ?hy15⟩) (by assumption) ?rest15
  case hy15 =>
    intro w' hSw
    have hSw : Keeps _ w' := hSw
    clear hSw
    go_simp
    try with_reducible rfl
  change wpAnyH _ _ _ _ _ _ _ (Act.put _ (some 19) _) _
  try simp only [Act.put, List.setIfInBounds_toArray, List.set_cons_zero, List.set_cons_succ]
  refine wpAnyH_take (i := 17) (v := ?vv16) (by rfl) (by kernel_rfl) (by kernel_rfl) (by kernel_rfl) (by intro _ _ _ h; exact h) (Or.inl ⟨by kernel_rfl, ?hy16⟩) (by assumption) ?rest16
  case hy16 =>
    intro w' hSw
    have hSw : Keeps _ w' := hSw
    have h0 := keep1 hSw c3
    have h1 := keep1 hSw c4
    clear hSw
    go_simp
    try with_reducible rfl
  change wpAnyH _ _ _ _ _ _ _ (Act.put _ (some 20) _) _
  try simp only [Act.put, List.setIfInBounds_toArray, List.set_cons_zero, List.set_cons_succ]
  refine wpAnyH_ready (rs := [4]) (by kernel_rfl) (by simp) ?_
  refine AllReadyH.cons (o := _) rfl (fun K hK => ?_) AllReadyH.nil
  go_simp
  refine (HC1.out _ hHeld).mono ?_
  rintro e z1 ⟨rfl, hm1, hk⟩
  have hb : Keeps _ z1 := hHeld.trans hk
  have hx1 : w.heap.size ≤ w.drew.heap.size := hHeld.size
  have HM1 := Lib.hid (show z1.ownsMap Try.prog 3 entElem w.heap.size n D1 from hm1)
  have HX1 := Lib.hid (show w.heap.size < z1.heap.size from hm1.lt)
  have HZ := Lib.hid hb
  clear hm1
  go_wp2_with fail
  refine hK.out _ _ hb (fun _ => ?_)
  clear hK K
  try simp only [Act.put, List.setIfInBounds_toArray, List.set_cons_zero, List.set_cons_succ]
  refine wpAnyH_more (S' := fun w' => Keeps z1 w') (fun _ h => hb.trans h) ?_
  clear hHeld hb hk
  have hHeld : Keeps z1 z1 := Keeps.refl _
  refine wpAnyH_ready (rs := [9]) (by kernel_rfl) (by simp) ?_
  refine AllReadyH.cons (o := _) rfl (fun K hK => ?_) AllReadyH.nil
  go_simp
  refine (HC2.out _ (HZ.out.trans hHeld)).mono ?_
  rintro e z2 ⟨rfl, hm2, hk⟩
  have hb : Keeps _ z2 := hHeld.trans hk
  have HM2 := Lib.hid hm2
  have HX2 := Lib.hid hm2.lt
  have HM1 := Lib.hid (map_keeps HM1.out hb)
  have HZ := Lib.hid (HZ.out.trans hb)
  clear hm2
  go_wp2_with fail
  refine hK.out _ _ hb (fun _ => ?_)
  clear hK K
  try simp only [Act.put, List.setIfInBounds_toArray, List.set_cons_zero, List.set_cons_succ]
  refine wpAnyH_more (S' := fun w' => Keeps z2 w') (fun _ h => hb.trans h) ?_
  clear hHeld hb hk
  have hHeld : Keeps z2 z2 := Keeps.refl _
  refine wpAnyH_take (i := 18) (v := ?vv17) (by rfl) (by kernel_rfl) (by kernel_rfl) (by kernel_rfl) (by intro _ _ _ h; exact h) (Or.inl ⟨by kernel_rfl, ?hy17⟩) (by assumption) ?rest17
  case hy17 =>
    intro w' hSw
    have hSw : Keeps _ w' := hSw
    clear hSw
    go_simp
    try with_reducible rfl
  change wpAnyH _ _ _ _ _ _ _ (Act.put _ (some 21) _) _
  try simp only [Act.put, List.setIfInBounds_toArray, List.set_cons_zero, List.set_cons_succ]
  refine wpAnyH_ready (rs := [19]) (by kernel_rfl) (by simp) ?_
  refine AllReadyH.cons (o := _) rfl (fun K hK => ?_) AllReadyH.nil
  go_simp
  have HB3 := Lib.hid (show Blk (World.alloc z2 (.cells #[.map (some w.heap.size), .map (some z1.heap.size), .int .i64 m.next, .int .i64 m.ub, .int .i64 m.uc] 186)) z2.heap.size 186 #[.map (some w.heap.size), .map (some z1.heap.size), .int .i64 m.next, .int .i64 m.ub, .int .i64 m.uc] from Blk.new _ _ _ rfl)
  have hb := hHeld.alloc (.cells #[.map (some w.heap.size), .map (some z1.heap.size), .int .i64 m.next, .int .i64 m.ub, .int .i64 m.uc] 186)
  have HM1 := Lib.hid (map_keeps HM1.out hb)
  have HM2 := Lib.hid (map_keeps HM2.out hb)
  have HLS := Lib.hid (show w.heap.size ≤ w.heap.size ∧ w.heap.size < z1.heap.size ∧ z1.heap.size < z2.heap.size from ⟨Nat.le_refl _, HX1.out, HX2.out⟩)
  have HZ := Lib.hid (HZ.out.trans hb)
  generalize World.alloc z2 _ = z3 at *
  refine hK.out _ _ hb (fun _ => ?_)
  clear hK K
  try simp only [Act.put, List.setIfInBounds_toArray, List.set_cons_zero, List.set_cons_succ]
  refine wpAnyH_more (S' := fun w' => Keeps z3 w') (fun _ h => hb.trans h) ?_
  clear hHeld hb
  have hHeld : Keeps z3 z3 := Keeps.refl _
  refine wpAnyH_take (i := 20) (v := ?vv18) (by rfl) (by kernel_rfl) (by kernel_rfl) (by kernel_rfl) (by intro _ _ _ h; exact h) (Or.inl ⟨by kernel_rfl, ?hy18⟩) (by assumption) ?rest18
  case hy18 =>
    intro w' hSw
    have hSw : Keeps _ w' := hSw
    clear hSw
    go_simp
    try with_reducible rfl
  change wpAnyH _ _ _ _ _ _ _ (Act.put _ (some 2) _) _
  try simp only [Act.put, List.setIfInBounds_toArray, List.set_cons_zero, List.set_cons_succ]
  refine wpAnyH_done (by kernel_rfl) ?_ _
  refine NoPanic.normal ?_
  go_wp2_with fail
  go_ret
  exact ⟨_, _, _, rfl, by have := HLS.out; omega, by have := HLS.out; omega, by have := HLS.out; omega, BoxAt.keeps ⟨HB3.out, ⟨_, HM1.out, HR.out.1⟩, ⟨_, HM2.out, HR.out.2⟩, by have := HLS.out; omega, by have := HLS.out; omega, by have := HLS.out; omega⟩ hHeld, HZ.out.trans hHeld⟩
end Mbx
end Go.Proofs.Ytohchhgheeolpaa
