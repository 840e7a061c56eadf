/- mbox.add. -/
import Derived.Test.YtohchhgheeolpaaK21
namespace Go.Proofs.Ytohchhgheeolpaa
open Go.RowKit
namespace Mbx
open Rcd Go.Maps

structure AddSt (w0 w : World) (Q : Nat) (ra : Array Value) (g b1 b2 n : Nat) (m : Box) : Prop where
  box : BoxAt w g b1 b2 n m
  rcd : Blk w Q 82 ra
  mods : Mods (BFr g b1 b2) w0 w
section
variable {w0 w w' : World} {Q : Nat} {ra : Array Value} {g b1 b2 n n' c : Nat} {m m' : Box}
theorem AddSt.kept (h : AddSt w0 w Q ra g b1 b2 n m) (k : Keeps w w') : AddSt w0 w' Q ra g b1 b2 n m := ⟨h.box.keeps k, h.rcd.keeps k, h.mods.then k⟩
theorem AddSt.step (h : AddSt w0 w Q ra g b1 b2 n m) (hb : BoxAt w' g b1 b2 n' m') (k : Mods (· = c) w w') (hc : BFr g b1 b2 c) (hq : ¬ Q = c) : AddSt w0 w' Q ra g b1 b2 n' m' :=
  ⟨hb, h.rcd.mods k hq, h.mods.trans k (fun y hy _ => by subst hy; exact hc)⟩
end
def maxI (a b : Int) : Int := if a < b then b else a
/-- what add makes, step by step -/
theorem addM_eq (m : Box) (r : Rec) : addM m r = ⟨upd m.ent r.uid (entOf r), if first m r.origin r.uid then upd m.org r.origin r.uid else m.org, if m.next < r.uid + 1 then r.uid + 1 else m.next, m.ub + r.size, m.uc + 1⟩ := rfl

set_option maxRecDepth 100000 in
set_option maxHeartbeats 4000000 in
theorem add_any (w : World) {g b1 b2 n : Nat} {m : Box} (h : BoxAt w g b1 b2 n m) (hn : n < 900000) (r : Rec) (v : Value) (hv : ∃ p n c, v = .slice p n c) (hu : 1 ≤ r.uid ∧ r.uid ≤ 2147483648) (ho : (Lit.int .i64 r.origin).wf = true) : Calls Try.prog 134 #[.pointer (some ⟨g, 0, none⟩), .agg (recA r v)] w (BoxDid w g b1 b2 (n + 2) (add m r)) := by
  obtain ⟨pv, nv, cv, rfl⟩ := hv
  have HB := Lib.hid h
  have huw : (Lit.int .i64 r.uid).wf = true := by simp [Lit.wf, IntKind.min, IntKind.max, IntKind.signed, IntKind.bits]; omega
  have HUW := Lib.hid huw
  have HOW := Lib.hid ho
  clear h huw ho
  have HAD : Hid (∀ is pb, (m.ent r.uid).isSome = is → putB m.ub m.uc r.size = pb → add m r = if is || !pb then (m, false) else (addM m r, true)) := Lib.hid (fun is pb h1 h2 => by
    subst h1 h2
    unfold add
    by_cases h1 : (m.ent r.uid).isSome = true <;> by_cases h2 : putB m.ub m.uc r.size = true <;> simp [h1, h2])
  unfold recA
  go_enter Try.func134, Try.ntmps134
  go_upto_region 1 with fail
  generalize hW : World.alloc w _ = w1
  have HS := Lib.hid (show AddSt w w1 w.heap.size (recA r (.slice pv nv cv)) g b1 b2 n m from by
    rw [← hW]; exact ⟨HB.out.keeps ((Keeps.refl _).alloc _), Blk.new _ _ _ rfl, Mods.of_keeps ((Keeps.refl _).alloc _)⟩)
  have hlt : ∀ y, BFr g b1 b2 y → y < w.heap.size := HB.out.lt
  have q0 : ¬ w.heap.size = g := by have := hlt g (.inl rfl); omega
  have q1 : ¬ w.heap.size = b1 := by have := hlt b1 (.inr (.inl rfl)); omega
  have q2 : ¬ w.heap.size = b2 := by have := hlt b2 (.inr (.inr rfl)); omega
  clear hW hlt
  generalize w.heap.size = Q at *
  have HL := Lib.hid (fun w' (k : Keeps w1 w') => (HS.out.box.keeps k).look HUW.out)
  have HQ := Lib.hid (fun w => Quota.put_any m.ub m.uc r.size w)
  have HPV : Hid (Quota.putB m.ub m.uc r.size = true → Quota.putV m.ub m.uc r.size = m.ub + r.size ∧ Quota.putC m.ub m.uc r.size = m.uc + 1) := Lib.hid (fun h => ⟨by unfold Quota.putV; rw [if_pos h], by unfold Quota.putC; rw [if_pos h]⟩)
  have HA2 : Hid (add m r = if (m.ent r.uid).isSome || !Quota.putB m.ub m.uc r.size then (m, false) else (addM m r, true)) := Lib.hid (HAD.out _ _ rfl (putB_eq _ _ _).symm)
  clear HAD
  generalize (m.ent r.uid).isSome = is at *
  generalize (m.ent r.uid).getD zeroEnt = E at *
  generalize Quota.putB m.ub m.uc r.size = pb at *
  generalize Quota.putV m.ub m.uc r.size = pu at *
  generalize Quota.putC m.ub m.uc r.size = pc at *
  obtain ⟨c0, c1, c2, c3, c4⟩ := HS.out.box.cells
  obtain ⟨a0, a1, a2, a3, a4, a5, a6, a7, a8, a9, a10, a11⟩ := rec12 HS.out.rcd
  go_cut [6] (fun t wx => t = .bool is ∧ Keeps w1 wx)
  case first =>
    refine wp_region_noPanic ?_
    refine wp_region_held_drew (S := fun w' => Keeps w1 w') (by kernel_rfl) ((Keeps.refl w1).drew) (fun _ => ?_)
    have hHeld : Keeps w1 (w1).drew := (Keeps.refl w1).drew
    generalize World.drew w1 = xs at *
    refine wpAnyH_take (i := 0) (v := ?vv1) (by rfl) (by kernel_rfl) (by kernel_rfl) (by kernel_rfl) (by intro _ _ _ h; exact h) (Or.inl ⟨by kernel_rfl, ?hy1⟩) (by assumption) ?rest1
    case hy1 =>
      intro w' hSw
      have hSw : Keeps w1 w' := hSw
      clear hSw
      go_simp
      try with_reducible rfl
    change wpAnyH _ _ _ _ _ _ _ (Act.put _ (some 12) _) _
    try simp only [Act.put, List.setIfInBounds_toArray, List.set_cons_zero, List.set_cons_succ]
    refine wpAnyH_take (i := 1) (v := ?vv2) (by rfl) (by kernel_rfl) (by kernel_rfl) (by kernel_rfl) (by intro _ _ _ h; exact h) (Or.inl ⟨by kernel_rfl, ?hy2⟩) (by assumption) ?rest2
    case hy2 =>
      intro w' hSw
      have hSw : Keeps w1 w' := hSw
      clear hSw
      go_simp
      try with_reducible rfl
    change wpAnyH _ _ _ _ _ _ _ (Act.put _ (some 13) _) _
    try simp only [Act.put, List.setIfInBounds_toArray, List.set_cons_zero, List.set_cons_succ]
    refine wpAnyH_take (i := 2) (v := ?vv3) (by rfl) (by kernel_rfl) (by kernel_rfl) (by kernel_rfl) (by intro _ _ _ h; exact h) (Or.inl ⟨by kernel_rfl, ?hy3⟩) (by assumption) ?rest3
    case hy3 =>
      intro w' hSw
      have hSw : Keeps w1 w' := hSw
      clear hSw
      go_simp
      try with_reducible rfl
    change wpAnyH _ _ _ _ _ _ _ (Act.put _ (some 14) _) _
    try simp only [Act.put, List.setIfInBounds_toArray, List.set_cons_zero, List.set_cons_succ]
    refine wpAnyH_take (i := 3) (v := ?vv4) (by rfl) (by kernel_rfl) (by kernel_rfl) (by kernel_rfl) (by intro _ _ _ h; exact h) (Or.inl ⟨by kernel_rfl, ?hy4⟩) (by assumption) ?rest4
    case hy4 =>
      intro w' hSw
      have hSw : Keeps w1 w' := hSw
      have h0 := keep1 hSw c0
      clear hSw
      go_simp
      try with_reducible rfl
    change wpAnyH _ _ _ _ _ _ _ (Act.put _ (some 15) _) _
    try simp only [Act.put, List.setIfInBounds_toArray, List.set_cons_zero, List.set_cons_succ]
    refine wpAnyH_take (i := 4) (v := ?vv5) (by rfl) (by kernel_rfl) (by kernel_rfl) (by kernel_rfl) (by intro _ _ _ h; exact h) (Or.inl ⟨by kernel_rfl, ?hy5⟩) (by assumption) ?rest5
    case hy5 =>
      intro w' hSw
      have hSw : Keeps w1 w' := hSw
      clear hSw
      go_simp
      try with_reducible rfl
    change wpAnyH _ _ _ _ _ _ _ (Act.put _ (some 16) _) _
    try simp only [Act.put, List.setIfInBounds_toArray, List.set_cons_zero, List.set_cons_succ]
    refine wpAnyH_take (i := 5) (v := ?vv6) (by rfl) (by kernel_rfl) (by kernel_rfl) (by kernel_rfl) (by intro _ _ _ h; exact h) (Or.inl ⟨by kernel_rfl, ?hy6⟩) (by assumption) ?rest6
    case hy6 =>
      intro w' hSw
      have hSw : Keeps w1 w' := hSw
      have h0 := keep1 hSw a5
      clear hSw
      go_simp
      try with_reducible rfl
    change wpAnyH _ _ _ _ _ _ _ (Act.put _ (some 17) _) _
    try simp only [Act.put, List.setIfInBounds_toArray, List.set_cons_zero, List.set_cons_succ]
    refine wpAnyH_take (i := 6) (v := ?vv7) (by rfl) (by kernel_rfl) (by kernel_rfl) (by kernel_rfl) (by intro _ _ _ h; exact h) (Or.inl ⟨by kernel_rfl, ?hy7⟩) (by assumption) ?rest7
    case hy7 =>
      intro w' hSw
      have hSw : Keeps w1 w' := hSw
      have h0 := HL.out w' hSw
      clear hSw
      go_simp
      try with_reducible rfl
    change wpAnyH _ _ _ _ _ _ _ (Act.put _ (some 18) _) _
    try simp only [Act.put, List.setIfInBounds_toArray, List.set_cons_zero, List.set_cons_succ]
    refine wpAnyH_take (i := 7) (v := ?vv8) (by rfl) (by kernel_rfl) (by kernel_rfl) (by kernel_rfl) (by intro _ _ _ h; exact h) (Or.inl ⟨by kernel_rfl, ?hy8⟩) (by assumption) ?rest8
    case hy8 =>
      intro w' hSw
      have hSw : Keeps w1 w' := hSw
      clear hSw
      go_simp
      try with_reducible rfl
    change wpAnyH _ _ _ _ _ _ _ (Act.put _ (some 11) _) _
    try simp only [Act.put, List.setIfInBounds_toArray, List.set_cons_zero, List.set_cons_succ]
    refine wpAnyH_take (i := 8) (v := ?vv9) (by rfl) (by kernel_rfl) (by kernel_rfl) (by kernel_rfl) (by intro _ _ _ h; exact h) (Or.inl ⟨by kernel_rfl, ?hy9⟩) (by assumption) ?rest9
    case hy9 =>
      intro w' hSw
      have hSw : Keeps w1 w' := hSw
      clear hSw
      go_simp
      try with_reducible rfl
    change wpAnyH _ _ _ _ _ _ _ (Act.put _ (some 19) _) _
    try simp only [Act.put, List.setIfInBounds_toArray, List.set_cons_zero, List.set_cons_succ]
    refine wpAnyH_take (i := 9) (v := ?vv10) (by rfl) (by kernel_rfl) (by kernel_rfl) (by kernel_rfl) (by intro _ _ _ h; exact h) (Or.inl ⟨by kernel_rfl, ?hy10⟩) (by assumption) ?rest10
    case hy10 =>
      intro w' hSw
      have hSw : Keeps w1 w' := hSw
      clear hSw
      go_simp
      try with_reducible rfl
    change wpAnyH _ _ _ _ _ _ _ (Act.put _ (some 20) _) _
    try simp only [Act.put, List.setIfInBounds_toArray, List.set_cons_zero, List.set_cons_succ]
    refine wpAnyH_ready (rs := [10]) (by kernel_rfl) (by simp) ?_
    refine AllReadyH.cons (o := _) rfl (fun K hK => ?_) ?_
    · go_simp
      obtain ⟨b, hb0⟩ : ∃ b, b = (World.heap xs).size := ⟨_, rfl⟩
      have hbs : w1.heap.size ≤ b := by rw [hb0]; exact hHeld.size
      rw [← hb0]
      have HBb := Lib.hid (show Blk (World.alloc xs (.cells entZ 85)) b 85 entZ from Blk.new _ _ _ hb0)
      have hb := hHeld.alloc (.cells entZ 85)
      clear hb0
      unfold entZ at hb HBb
      generalize World.alloc xs _ = yB at *
      refine hK.out _ _ hb (fun _ => ?_)
      clear hK K hHeld
      have hHeld : Keeps w1 yB := hb
      clear hb
      try simp only [Act.put, List.setIfInBounds_toArray, List.set_cons_zero, List.set_cons_succ]
      refine wpAnyH_ready (rs := [11]) (by kernel_rfl) (by simp) ?_
      refine AllReadyH.cons (o := _) rfl (fun K hK => ?_) ?_
      · refine step_st (ds := entA E) rfl entM HBb.out rfl (entA_one _) _ _ rfl rfl rfl rfl ?_
        intro yF hBF hMF
        have hb := hMF.keeps hHeld (fun x hx => by omega)
        clear hBF hMF
        refine hK.out _ _ hb (fun _ => ?_)
        clear hK K hHeld
        have hHeld : Keeps w1 yF := hb
        clear hb
        try simp only [Act.put, List.setIfInBounds_toArray, List.set_cons_zero, List.set_cons_succ]
        refine wpAnyH_take (i := 12) (v := ?vv11) (by rfl) (by kernel_rfl) (by kernel_rfl) (by kernel_rfl) (by intro _ _ _ h; exact h) (Or.inl ⟨by kernel_rfl, ?hy11⟩) (by assumption) ?rest11
        case hy11 =>
          intro w' hSw
          have hSw : Keeps w1 w' := hSw
          clear hSw
          go_simp
          try with_reducible rfl
        change wpAnyH _ _ _ _ _ _ _ (Act.put _ (some 6) _) _
        try simp only [Act.put, List.setIfInBounds_toArray, List.set_cons_zero, List.set_cons_succ]
        refine wpAnyH_done (by kernel_rfl) ?_ _
        refine NoPanic.normal ?_
        go_wp2_with fail
        go_meet
        exact ⟨rfl, hHeld⟩
      exact AllReadyH.nil
    exact AllReadyH.nil
  case rest =>
  obtain ⟨rfl, hkc⟩ := hcut
  obtain ⟨w2, rfl⟩ : ∃ wz : World, wz = wc := ⟨_, rfl⟩
  have HS := Lib.hid (HS.out.kept hkc)
  clear hkc HL c0 c1 c2 c3 c4 a0 a1 a2 a3 a4 a5 a6 a7 a8 a9 a10 a11
  obtain ⟨c0, c1, c2, c3, c4⟩ := HS.out.box.cells
  obtain ⟨a0, a1, a2, a3, a4, a5, a6, a7, a8, a9, a10, a11⟩ := rec12 HS.out.rcd
  have useM : Mids Try.prog 88 2 := ⟨⟨_, Try.underlying88, rfl⟩, by kernel_rfl⟩
  have hone : (#[Value.int .i64 pu, .int .i64 pc] : Array Value).all (·.oneCell') = true := by simp [Value.oneCell']
  go_upto_region 2 with fail
  go_cut [7, 8] (fun pq t wx => ∃ b : Nat, pq = .pointer (some ⟨b, 0, none⟩) ∧ t = .bool pb ∧ Hid (w2.heap.size ≤ b ∧ Keeps w2 wx ∧ Blk wx b 88 #[.int .i64 pu, .int .i64 pc]))
  case first =>
    refine wp_region_noPanic ?_
    refine wp_region_held_drew (S := fun w' => Keeps w2 w') (by kernel_rfl) ((Keeps.refl w2).drew) (fun _ => ?_)
    have hHeld : Keeps w2 (w2).drew := (Keeps.refl w2).drew
    generalize World.drew w2 = xs at *
    refine wpAnyH_take (i := 0) (v := ?vv12) (by rfl) (by kernel_rfl) (by kernel_rfl) (by kernel_rfl) (by intro _ _ _ h; exact h) (Or.inl ⟨by kernel_rfl, ?hy12⟩) (by assumption) ?rest12
    case hy12 =>
      intro w' hSw
      have hSw : Keeps w2 w' := hSw
      clear hSw
      go_simp
      try with_reducible rfl
    change wpAnyH _ _ _ _ _ _ _ (Act.put _ (some 22) _) _
    try simp only [Act.put, List.setIfInBounds_toArray, List.set_cons_zero, List.set_cons_succ]
    refine wpAnyH_take (i := 1) (v := ?vv13) (by rfl) (by kernel_rfl) (by kernel_rfl) (by kernel_rfl) (by intro _ _ _ h; exact h) (Or.inl ⟨by kernel_rfl, ?hy13⟩) (by assumption) ?rest13
    case hy13 =>
      intro w' hSw
      have hSw : Keeps w2 w' := hSw
      clear hSw
      go_simp
      try with_reducible rfl
    change wpAnyH _ _ _ _ _ _ _ (Act.put _ (some 23) _) _
    try simp only [Act.put, List.setIfInBounds_toArray, List.set_cons_zero, List.set_cons_succ]
    refine wpAnyH_take (i := 2) (v := ?vv14) (by rfl) (by kernel_rfl) (by kernel_rfl) (by kernel_rfl) (by intro _ _ _ h; exact h) (Or.inl ⟨by kernel_rfl, ?hy14⟩) (by assumption) ?rest14
    case hy14 =>
      intro w' hSw
      have hSw : Keeps w2 w' := hSw
      clear hSw
      go_simp
      try with_reducible rfl
    change wpAnyH _ _ _ _ _ _ _ (Act.put _ (some 24) _) _
    try simp only [Act.put, List.setIfInBounds_toArray, List.set_cons_zero, List.set_cons_succ]
    refine wpAnyH_take (i := 3) (v := ?vv15) (by rfl) (by kernel_rfl) (by kernel_rfl) (by kernel_rfl) (by intro _ _ _ h; exact h) (Or.inl ⟨by kernel_rfl, ?hy15⟩) (by assumption) ?rest15
    case hy15 =>
      intro w' hSw
      have hSw : Keeps w2 w' := hSw
      have h3 := keep1 hSw c3
      have h4 := keep1 hSw c4
      clear hSw
      go_simp
      try with_reducible rfl
    change wpAnyH _ _ _ _ _ _ _ (Act.put _ (some 25) _) _
    try simp only [Act.put, List.setIfInBounds_toArray, List.set_cons_zero, List.set_cons_succ]
    refine wpAnyH_take (i := 4) (v := ?vv16) (by rfl) (by kernel_rfl) (by kernel_rfl) (by kernel_rfl) (by intro _ _ _ h; exact h) (Or.inl ⟨by kernel_rfl, ?hy16⟩) (by assumption) ?rest16
    case hy16 =>
      intro w' hSw
      have hSw : Keeps w2 w' := hSw
      clear hSw
      go_simp
      try with_reducible rfl
    change wpAnyH _ _ _ _ _ _ _ (Act.put _ (some 26) _) _
    try simp only [Act.put, List.setIfInBounds_toArray, List.set_cons_zero, List.set_cons_succ]
    refine wpAnyH_take (i := 5) (v := ?vv17) (by rfl) (by kernel_rfl) (by kernel_rfl) (by kernel_rfl) (by intro _ _ _ h; exact h) (Or.inl ⟨by kernel_rfl, ?hy17⟩) (by assumption) ?rest17
    case hy17 =>
      intro w' hSw
      have hSw : Keeps w2 w' := hSw
      have h0 := keep1 hSw a9
      clear hSw
      go_simp
      try with_reducible rfl
    change wpAnyH _ _ _ _ _ _ _ (Act.put _ (some 27) _) _
    try simp only [Act.put, List.setIfInBounds_toArray, List.set_cons_zero, List.set_cons_succ]
    refine wpAnyH_ready (rs := [6, 10]) (by kernel_rfl) (by simp) ?_
    refine AllReadyH.cons (o := _) rfl (fun K hK => ?_) ?_
    · go_simp
      refine (HQ.out _).mono ?_
      rintro e yA ⟨rfl, hk⟩
      have hb := hHeld.trans hk
      clear hk
      go_wp2_with fail
      refine hK.out _ _ hb (fun _ => ?_)
      clear hK K hHeld
      have hHeld : Keeps w2 yA := hb
      clear hb
      try simp only [Act.put, List.setIfInBounds_toArray, List.set_cons_zero, List.set_cons_succ]
      refine wpAnyH_take (i := 7) (v := ?vv18) (by rfl) (by kernel_rfl) (by kernel_rfl) (by kernel_rfl) (by intro _ _ _ h; exact h) (Or.inl ⟨by kernel_rfl, ?hy18⟩) (by assumption) ?rest18
      case hy18 =>
        intro w' hSw
        have hSw : Keeps w2 w' := hSw
        clear hSw
        go_simp
        try with_reducible rfl
      change wpAnyH _ _ _ _ _ _ _ (Act.put _ (some 21) _) _
      try simp only [Act.put, List.setIfInBounds_toArray, List.set_cons_zero, List.set_cons_succ]
      refine wpAnyH_take (i := 8) (v := ?vv19) (by rfl) (by kernel_rfl) (by kernel_rfl) (by kernel_rfl) (by intro _ _ _ h; exact h) (Or.inl ⟨by kernel_rfl, ?hy19⟩) (by assumption) ?rest19
      case hy19 =>
        intro w' hSw
        have hSw : Keeps w2 w' := hSw
        clear hSw
        go_simp
        try with_reducible rfl
      change wpAnyH _ _ _ _ _ _ _ (Act.put _ (some 29) _) _
      try simp only [Act.put, List.setIfInBounds_toArray, List.set_cons_zero, List.set_cons_succ]
      refine wpAnyH_take (i := 9) (v := ?vv20) (by rfl) (by kernel_rfl) (by kernel_rfl) (by kernel_rfl) (by intro _ _ _ h; exact h) (Or.inl ⟨by kernel_rfl, ?hy20⟩) (by assumption) ?rest20
      case hy20 =>
        intro w' hSw
        have hSw : Keeps w2 w' := hSw
        clear hSw
        go_simp
        try with_reducible rfl
      change wpAnyH _ _ _ _ _ _ _ (Act.put _ (some 30) _) _
      try simp only [Act.put, List.setIfInBounds_toArray, List.set_cons_zero, List.set_cons_succ]
      refine wpAnyH_ready (rs := [10]) (by kernel_rfl) (by simp) ?_
      refine AllReadyH.cons (o := _) rfl (fun K hK => ?_) ?_
      · go_simp
        obtain ⟨b, hb0⟩ : ∃ b, b = (World.heap yA).size := ⟨_, rfl⟩
        have hbs : w2.heap.size ≤ b := by rw [hb0]; exact hHeld.size
        rw [← hb0]
        have HBb := Lib.hid (show Blk (World.alloc yA (.cells #[.int .i64 0, .int .i64 0] 88)) b 88 #[.int .i64 0, .int .i64 0] from Blk.new _ _ _ hb0)
        have hb := hHeld.alloc (.cells #[.int .i64 0, .int .i64 0] 88)
        clear hb0
        generalize World.alloc yA _ = yB at *
        refine hK.out _ _ hb (fun _ => ?_)
        clear hK K hHeld
        have hHeld : Keeps w2 yB := hb
        clear hb
        try simp only [Act.put, List.setIfInBounds_toArray, List.set_cons_zero, List.set_cons_succ]
        refine wpAnyH_ready (rs := [11]) (by kernel_rfl) (by simp) ?_
        refine AllReadyH.cons (o := _) rfl (fun K hK => ?_) ?_
        · refine step_st (ds := #[.int .i64 pu, .int .i64 pc]) rfl useM HBb.out rfl hone _ _ rfl rfl rfl rfl ?_
          intro yF hBF hMF
          have hb := hMF.keeps hHeld (fun x hx => by omega)
          have HBb := Lib.hid hBF
          clear hBF hMF
          refine hK.out _ _ hb (fun _ => ?_)
          clear hK K hHeld
          have hHeld : Keeps w2 yF := hb
          clear hb
          try simp only [Act.put, List.setIfInBounds_toArray, List.set_cons_zero, List.set_cons_succ]
          refine wpAnyH_take (i := 12) (v := ?vv21) (by rfl) (by kernel_rfl) (by kernel_rfl) (by kernel_rfl) (by intro _ _ _ h; exact h) (Or.inl ⟨by kernel_rfl, ?hy21⟩) (by assumption) ?rest21
          case hy21 =>
            intro w' hSw
            have hSw : Keeps w2 w' := hSw
            clear hSw
            go_simp
            try with_reducible rfl
          change wpAnyH _ _ _ _ _ _ _ (Act.put _ (some 8) _) _
          try simp only [Act.put, List.setIfInBounds_toArray, List.set_cons_zero, List.set_cons_succ]
          refine wpAnyH_done (by kernel_rfl) ?_ _
          refine NoPanic.normal ?_
          go_wp2_with fail
          go_meet
          exact ⟨b, rfl, rfl, Lib.hid ⟨hbs, hHeld, HBb.out⟩⟩
        exact AllReadyH.nil
      exact AllReadyH.nil
    refine AllReadyH.cons (o := _) rfl (fun K hK => ?_) ?_
    · go_simp
      obtain ⟨b, hb0⟩ : ∃ b, b = (World.heap xs).size := ⟨_, rfl⟩
      have hbs : w2.heap.size ≤ b := by rw [hb0]; exact hHeld.size
      rw [← hb0]
      have HBb := Lib.hid (show Blk (World.alloc xs (.cells #[.int .i64 0, .int .i64 0] 88)) b 88 #[.int .i64 0, .int .i64 0] from Blk.new _ _ _ hb0)
      have hb := hHeld.alloc (.cells #[.int .i64 0, .int .i64 0] 88)
      clear hb0
      generalize World.alloc xs _ = yB at *
      refine hK.out _ _ hb (fun _ => ?_)
      clear hK K hHeld
      have hHeld : Keeps w2 yB := hb
      clear hb
      try simp only [Act.put, List.setIfInBounds_toArray, List.set_cons_zero, List.set_cons_succ]
      refine wpAnyH_ready (rs := [6]) (by kernel_rfl) (by simp) ?_
      refine AllReadyH.cons (o := _) rfl (fun K hK => ?_) ?_
      · go_simp
        refine (HQ.out _).mono ?_
        rintro e yA ⟨rfl, hk⟩
        have hb := hHeld.trans hk
        have HBb := Lib.hid (HBb.out.keeps hk)
        clear hk
        go_wp2_with fail
        refine hK.out _ _ hb (fun _ => ?_)
        clear hK K hHeld
        have hHeld : Keeps w2 yA := hb
        clear hb
        try simp only [Act.put, List.setIfInBounds_toArray, List.set_cons_zero, List.set_cons_succ]
        refine wpAnyH_take (i := 7) (v := ?vv22) (by rfl) (by kernel_rfl) (by kernel_rfl) (by kernel_rfl) (by intro _ _ _ h; exact h) (Or.inl ⟨by kernel_rfl, ?hy22⟩) (by assumption) ?rest22
        case hy22 =>
          intro w' hSw
          have hSw : Keeps w2 w' := hSw
          clear hSw
          go_simp
          try with_reducible rfl
        change wpAnyH _ _ _ _ _ _ _ (Act.put _ (some 21) _) _
        try simp only [Act.put, List.setIfInBounds_toArray, List.set_cons_zero, List.set_cons_succ]
        refine wpAnyH_take (i := 8) (v := ?vv23) (by rfl) (by kernel_rfl) (by kernel_rfl) (by kernel_rfl) (by intro _ _ _ h; exact h) (Or.inl ⟨by kernel_rfl, ?hy23⟩) (by assumption) ?rest23
        case hy23 =>
          intro w' hSw
          have hSw : Keeps w2 w' := hSw
          clear hSw
          go_simp
          try with_reducible rfl
        change wpAnyH _ _ _ _ _ _ _ (Act.put _ (some 29) _) _
        try simp only [Act.put, List.setIfInBounds_toArray, List.set_cons_zero, List.set_cons_succ]
        refine wpAnyH_take (i := 9) (v := ?vv24) (by rfl) (by kernel_rfl) (by kernel_rfl) (by kernel_rfl) (by intro _ _ _ h; exact h) (Or.inl ⟨by kernel_rfl, ?hy24⟩) (by assumption) ?rest24
        case hy24 =>
          intro w' hSw
          have hSw : Keeps w2 w' := hSw
          clear hSw
          go_simp
          try with_reducible rfl
        change wpAnyH _ _ _ _ _ _ _ (Act.put _ (some 30) _) _
        try simp only [Act.put, List.setIfInBounds_toArray, List.set_cons_zero, List.set_cons_succ]
        refine wpAnyH_ready (rs := [11]) (by kernel_rfl) (by simp) ?_
        refine AllReadyH.cons (o := _) rfl (fun K hK => ?_) ?_
        · refine step_st (ds := #[.int .i64 pu, .int .i64 pc]) rfl useM HBb.out rfl hone _ _ rfl rfl rfl rfl ?_
          intro yF hBF hMF
          have hb := hMF.keeps hHeld (fun x hx => by omega)
          have HBb := Lib.hid hBF
          clear hBF hMF
          refine hK.out _ _ hb (fun _ => ?_)
          clear hK K hHeld
          have hHeld : Keeps w2 yF := hb
          clear hb
          try simp only [Act.put, List.setIfInBounds_toArray, List.set_cons_zero, List.set_cons_succ]
          refine wpAnyH_take (i := 12) (v := ?vv25) (by rfl) (by kernel_rfl) (by kernel_rfl) (by kernel_rfl) (by intro _ _ _ h; exact h) (Or.inl ⟨by kernel_rfl, ?hy25⟩) (by assumption) ?rest25
          case hy25 =>
            intro w' hSw
            have hSw : Keeps w2 w' := hSw
            clear hSw
            go_simp
            try with_reducible rfl
          change wpAnyH _ _ _ _ _ _ _ (Act.put _ (some 8) _) _
          try simp only [Act.put, List.setIfInBounds_toArray, List.set_cons_zero, List.set_cons_succ]
          refine wpAnyH_done (by kernel_rfl) ?_ _
          refine NoPanic.normal ?_
          go_wp2_with fail
          go_meet
          exact ⟨b, rfl, rfl, Lib.hid ⟨hbs, hHeld, HBb.out⟩⟩
        exact AllReadyH.nil
      exact AllReadyH.nil
    exact AllReadyH.nil
  case rest =>
  obtain ⟨bu, rfl, rfl, HU⟩ := hcut
  obtain ⟨w3, rfl⟩ : ∃ wz : World, wz = wc := ⟨_, rfl⟩
  have hgu : ¬ g = bu := by have := HS.out.box.blk.lt; have := HU.out.1; omega
  have HS := Lib.hid (HS.out.kept HU.out.2.1)
  have u0 : w3.cell? ⟨bu, 0, none⟩ = some (.int .i64 pu) := by rw [HU.out.2.2.cell]; rfl
  have u1 : w3.cell? ⟨bu, 1, none⟩ = some (.int .i64 pc) := by rw [HU.out.2.2.cell]; rfl
  clear HU HQ c0 c1 c2 c3 c4 a0 a1 a2 a3 a4 a5 a6 a7 a8 a9 a10 a11
  cases is with
  | true =>
    have HX : Hid (add m r = (m, false)) := Lib.hid (by rw [HA2.out]; rfl)
    go_wp2_with fail
    go_ret
    exact ⟨(congrArg (fun r : Box × Bool => Ending.returned (Value.bool r.2)) HX.out).symm, by rw [HX.out]; exact HS.out.box.mono (by omega), HS.out.mods⟩
  | false =>
  cases pb with
  | false =>
    have HX : Hid (add m r = (m, false)) := Lib.hid (by rw [HA2.out]; rfl)
    go_wp2_with fail
    go_ret
    exact ⟨(congrArg (fun r : Box × Bool => Ending.returned (Value.bool r.2)) HX.out).symm, by rw [HX.out]; exact HS.out.box.mono (by omega), HS.out.mods⟩
  | true =>
  have HX : Hid (add m r = (addM m r, true)) := Lib.hid (by rw [HA2.out]; rfl)
  obtain ⟨hpu, hpc⟩ := HPV.out rfl
  subst hpu hpc
  clear HA2 HPV
  obtain ⟨c0, c1, c2, c3, c4⟩ := HS.out.box.cells
  have z3 : w3.frozen? ⟨g, 3, none⟩ = false := HS.out.box.blk.frozen _
  have z4 : w3.frozen? ⟨g, 4, none⟩ = false := HS.out.box.blk.frozen _
  go_upto_region 6 with fail
  have hsu := HS.out.box.setUse (m.ub + r.size) (m.uc + 1)
  have HS4 := Lib.hid (HS.out.step hsu.1 hsu.2 (.inl rfl) q0)
  clear hsu c0 c1 c2 c3 c4 z3 z4 u0 u1
  generalize World.setCell (World.setCell w3 ⟨g, 3, none⟩ (.int .i64 (m.ub + r.size))) ⟨g, 4, none⟩ (.int .i64 (m.uc + 1)) = w4 at *
  obtain ⟨c0, -⟩ := HS4.out.box.cells
  obtain ⟨-, -, -, -, -, a5, a6, a7, a8, a9, a10, -⟩ := rec12 HS4.out.rcd
  have hgb : ¬ g = b1 := fun e => HS4.out.box.d1 e.symm
  have hgb2 : ¬ g = b2 := fun e => HS4.out.box.d2 e.symm
  have HSd := Lib.hid (HS4.out.kept (Keeps.refl w4).drew)
  go_cut [58] (fun _ wx => Hid (AddSt w wx Q (recA r (.slice pv nv cv)) g b1 b2 (n + 1) { m with ub := m.ub + r.size, uc := m.uc + 1, ent := upd m.ent r.uid (entOf r) }))
  case first =>
    refine wp_region_noPanic ?_
    refine wp_region_held_drew (S := fun w' => Mods (· = b1) w4 w') (by kernel_rfl) ((Mods.refl (· = b1) w4).drew) (fun _ => ?_)
    have hHeld : Mods (· = b1) w4 (w4).drew := (Mods.refl (· = b1) w4).drew
    generalize World.drew w4 = xs at *
    refine wpAnyH_take (i := 0) (v := ?vv26) (by rfl) (by kernel_rfl) (by kernel_rfl) (by kernel_rfl) (by intro _ _ _ h; exact h) (Or.inl ⟨by kernel_rfl, ?hy26⟩) (by assumption) ?rest26
    case hy26 =>
      intro w' hSw
      have hSw : Mods (· = b1) w4 w' := hSw
      clear hSw
      go_simp
      try with_reducible rfl
    change wpAnyH _ _ _ _ _ _ _ (Act.put _ (some 40) _) _
    try simp only [Act.put, List.setIfInBounds_toArray, List.set_cons_zero, List.set_cons_succ]
    refine wpAnyH_take (i := 1) (v := ?vv27) (by rfl) (by kernel_rfl) (by kernel_rfl) (by kernel_rfl) (by intro _ _ _ h; exact h) (Or.inl ⟨by kernel_rfl, ?hy27⟩) (by assumption) ?rest27
    case hy27 =>
      intro w' hSw
      have hSw : Mods (· = b1) w4 w' := hSw
      clear hSw
      go_simp
      try with_reducible rfl
    change wpAnyH _ _ _ _ _ _ _ (Act.put _ (some 41) _) _
    try simp only [Act.put, List.setIfInBounds_toArray, List.set_cons_zero, List.set_cons_succ]
    refine wpAnyH_take (i := 2) (v := ?vv28) (by rfl) (by kernel_rfl) (by kernel_rfl) (by kernel_rfl) (by intro _ _ _ h; exact h) (Or.inl ⟨by kernel_rfl, ?hy28⟩) (by assumption) ?rest28
    case hy28 =>
      intro w' hSw
      have hSw : Mods (· = b1) w4 w' := hSw
      clear hSw
      go_simp
      try with_reducible rfl
    change wpAnyH _ _ _ _ _ _ _ (Act.put _ (some 42) _) _
    try simp only [Act.put, List.setIfInBounds_toArray, List.set_cons_zero, List.set_cons_succ]
    refine wpAnyH_take (i := 3) (v := ?vv29) (by rfl) (by kernel_rfl) (by kernel_rfl) (by kernel_rfl) (by intro _ _ _ h; exact h) (Or.inl ⟨by kernel_rfl, ?hy29⟩) (by assumption) ?rest29
    case hy29 =>
      intro w' hSw
      have hSw : Mods (· = b1) w4 w' := hSw
      have h0 := hSw.cell c0 hgb
      clear hSw
      go_simp
      try with_reducible rfl
    change wpAnyH _ _ _ _ _ _ _ (Act.put _ (some 43) _) _
    try simp only [Act.put, List.setIfInBounds_toArray, List.set_cons_zero, List.set_cons_succ]
    refine wpAnyH_take (i := 4) (v := ?vv30) (by rfl) (by kernel_rfl) (by kernel_rfl) (by kernel_rfl) (by intro _ _ _ h; exact h) (Or.inl ⟨by kernel_rfl, ?hy30⟩) (by assumption) ?rest30
    case hy30 =>
      intro w' hSw
      have hSw : Mods (· = b1) w4 w' := hSw
      clear hSw
      go_simp
      try with_reducible rfl
    change wpAnyH _ _ _ _ _ _ _ (Act.put _ (some 44) _) _
    try simp only [Act.put, List.setIfInBounds_toArray, List.set_cons_zero, List.set_cons_succ]
    refine wpAnyH_take (i := 5) (v := ?vv31) (by rfl) (by kernel_rfl) (by kernel_rfl) (by kernel_rfl) (by intro _ _ _ h; exact h) (Or.inl ⟨by kernel_rfl, ?hy31⟩) (by assumption) ?rest31
    case hy31 =>
      intro w' hSw
      have hSw : Mods (· = b1) w4 w' := hSw
      have h0 := hSw.cell a5 q1
      clear hSw
      go_simp
      try with_reducible rfl
    change wpAnyH _ _ _ _ _ _ _ (Act.put _ (some 45) _) _
    try simp only [Act.put, List.setIfInBounds_toArray, List.set_cons_zero, List.set_cons_succ]
    refine wpAnyH_take (i := 6) (v := ?vv32) (by rfl) (by kernel_rfl) (by kernel_rfl) (by kernel_rfl) (by intro _ _ _ h; exact h) (Or.inl ⟨by kernel_rfl, ?hy32⟩) (by assumption) ?rest32
    case hy32 =>
      intro w' hSw
      have hSw : Mods (· = b1) w4 w' := hSw
      clear hSw
      go_simp
      try with_reducible rfl
    change wpAnyH _ _ _ _ _ _ _ (Act.put _ (some 46) _) _
    try simp only [Act.put, List.setIfInBounds_toArray, List.set_cons_zero, List.set_cons_succ]
    refine wpAnyH_take (i := 7) (v := ?vv33) (by rfl) (by kernel_rfl) (by kernel_rfl) (by kernel_rfl) (by intro _ _ _ h; exact h) (Or.inl ⟨by kernel_rfl, ?hy33⟩) (by assumption) ?rest33
    case hy33 =>
      intro w' hSw
      have hSw : Mods (· = b1) w4 w' := hSw
      have h0 := hSw.cell a5 q1
      clear hSw
      go_simp
      try with_reducible rfl
    change wpAnyH _ _ _ _ _ _ _ (Act.put _ (some 47) _) _
    try simp only [Act.put, List.setIfInBounds_toArray, List.set_cons_zero, List.set_cons_succ]
    refine wpAnyH_take (i := 8) (v := ?vv34) (by rfl) (by kernel_rfl) (by kernel_rfl) (by kernel_rfl) (by intro _ _ _ h; exact h) (Or.inl ⟨by kernel_rfl, ?hy34⟩) (by assumption) ?rest34
    case hy34 =>
      intro w' hSw
      have hSw : Mods (· = b1) w4 w' := hSw
      clear hSw
      go_simp
      try with_reducible rfl
    change wpAnyH _ _ _ _ _ _ _ (Act.put _ (some 48) _) _
    try simp only [Act.put, List.setIfInBounds_toArray, List.set_cons_zero, List.set_cons_succ]
    refine wpAnyH_take (i := 9) (v := ?vv35) (by rfl) (by kernel_rfl) (by kernel_rfl) (by kernel_rfl) (by intro _ _ _ h; exact h) (Or.inl ⟨by kernel_rfl, ?hy35⟩) (by assumption) ?rest35
    case hy35 =>
      intro w' hSw
      have hSw : Mods (· = b1) w4 w' := hSw
      have h0 := hSw.cell a6 q1
      clear hSw
      go_simp
      try with_reducible rfl
    change wpAnyH _ _ _ _ _ _ _ (Act.put _ (some 49) _) _
    try simp only [Act.put, List.setIfInBounds_toArray, List.set_cons_zero, List.set_cons_succ]
    refine wpAnyH_take (i := 10) (v := ?vv36) (by rfl) (by kernel_rfl) (by kernel_rfl) (by kernel_rfl) (by intro _ _ _ h; exact h) (Or.inl ⟨by kernel_rfl, ?hy36⟩) (by assumption) ?rest36
    case hy36 =>
      intro w' hSw
      have hSw : Mods (· = b1) w4 w' := hSw
      clear hSw
      go_simp
      try with_reducible rfl
    change wpAnyH _ _ _ _ _ _ _ (Act.put _ (some 50) _) _
    try simp only [Act.put, List.setIfInBounds_toArray, List.set_cons_zero, List.set_cons_succ]
    refine wpAnyH_take (i := 11) (v := ?vv37) (by rfl) (by kernel_rfl) (by kernel_rfl) (by kernel_rfl) (by intro _ _ _ h; exact h) (Or.inl ⟨by kernel_rfl, ?hy37⟩) (by assumption) ?rest37
    case hy37 =>
      intro w' hSw
      have hSw : Mods (· = b1) w4 w' := hSw
      have h0 := hSw.cell a7 q1
      clear hSw
      go_simp
      try with_reducible rfl
    change wpAnyH _ _ _ _ _ _ _ (Act.put _ (some 51) _) _
    try simp only [Act.put, List.setIfInBounds_toArray, List.set_cons_zero, List.set_cons_succ]
    refine wpAnyH_take (i := 12) (v := ?vv38) (by rfl) (by kernel_rfl) (by kernel_rfl) (by kernel_rfl) (by intro _ _ _ h; exact h) (Or.inl ⟨by kernel_rfl, ?hy38⟩) (by assumption) ?rest38
    case hy38 =>
      intro w' hSw
      have hSw : Mods (· = b1) w4 w' := hSw
      clear hSw
      go_simp
      try with_reducible rfl
    change wpAnyH _ _ _ _ _ _ _ (Act.put _ (some 52) _) _
    try simp only [Act.put, List.setIfInBounds_toArray, List.set_cons_zero, List.set_cons_succ]
    refine wpAnyH_take (i := 13) (v := ?vv39) (by rfl) (by kernel_rfl) (by kernel_rfl) (by kernel_rfl) (by intro _ _ _ h; exact h) (Or.inl ⟨by kernel_rfl, ?hy39⟩) (by assumption) ?rest39
    case hy39 =>
      intro w' hSw
      have hSw : Mods (· = b1) w4 w' := hSw
      have h0 := hSw.cell a8 q1
      clear hSw
      go_simp
      try with_reducible rfl
    change wpAnyH _ _ _ _ _ _ _ (Act.put _ (some 53) _) _
    try simp only [Act.put, List.setIfInBounds_toArray, List.set_cons_zero, List.set_cons_succ]
    refine wpAnyH_take (i := 14) (v := ?vv40) (by rfl) (by kernel_rfl) (by kernel_rfl) (by kernel_rfl) (by intro _ _ _ h; exact h) (Or.inl ⟨by kernel_rfl, ?hy40⟩) (by assumption) ?rest40
    case hy40 =>
      intro w' hSw
      have hSw : Mods (· = b1) w4 w' := hSw
      clear hSw
      go_simp
      try with_reducible rfl
    change wpAnyH _ _ _ _ _ _ _ (Act.put _ (some 54) _) _
    try simp only [Act.put, List.setIfInBounds_toArray, List.set_cons_zero, List.set_cons_succ]
    refine wpAnyH_take (i := 15) (v := ?vv41) (by rfl) (by kernel_rfl) (by kernel_rfl) (by kernel_rfl) (by intro _ _ _ h; exact h) (Or.inl ⟨by kernel_rfl, ?hy41⟩) (by assumption) ?rest41
    case hy41 =>
      intro w' hSw
      have hSw : Mods (· = b1) w4 w' := hSw
      have h0 := hSw.cell a9 q1
      clear hSw
      go_simp
      try with_reducible rfl
    change wpAnyH _ _ _ _ _ _ _ (Act.put _ (some 55) _) _
    try simp only [Act.put, List.setIfInBounds_toArray, List.set_cons_zero, List.set_cons_succ]
    refine wpAnyH_take (i := 16) (v := ?vv42) (by rfl) (by kernel_rfl) (by kernel_rfl) (by kernel_rfl) (by intro _ _ _ h; exact h) (Or.inl ⟨by kernel_rfl, ?hy42⟩) (by assumption) ?rest42
    case hy42 =>
      intro w' hSw
      have hSw : Mods (· = b1) w4 w' := hSw
      clear hSw
      go_simp
      try with_reducible rfl
    change wpAnyH _ _ _ _ _ _ _ (Act.put _ (some 56) _) _
    try simp only [Act.put, List.setIfInBounds_toArray, List.set_cons_zero, List.set_cons_succ]
    refine wpAnyH_take (i := 17) (v := ?vv43) (by rfl) (by kernel_rfl) (by kernel_rfl) (by kernel_rfl) (by intro _ _ _ h; exact h) (Or.inl ⟨by kernel_rfl, ?hy43⟩) (by assumption) ?rest43
    case hy43 =>
      intro w' hSw
      have hSw : Mods (· = b1) w4 w' := hSw
      have h0 := hSw.cell a10 q1
      clear hSw
      go_simp
      try with_reducible rfl
    change wpAnyH _ _ _ _ _ _ _ (Act.put _ (some 57) _) _
    try simp only [Act.put, List.setIfInBounds_toArray, List.set_cons_zero, List.set_cons_succ]
    refine wpAnyH_take (i := 18) (v := ?vv44) (by rfl) (by kernel_rfl) (by kernel_rfl) (by kernel_rfl) (by intro _ _ _ h; exact h) (Or.inl ⟨by kernel_rfl, ?hy44⟩) (by assumption) ?rest44
    case hy44 =>
      intro w' hSw
      have hSw : Mods (· = b1) w4 w' := hSw
      clear hSw
      go_simp
      try with_reducible rfl
    change wpAnyH _ _ _ _ _ _ _ (Act.put _ (some 58) _) _
    try simp only [Act.put, List.setIfInBounds_toArray, List.set_cons_zero, List.set_cons_succ]
    refine wpAnyH_ready (rs := [19]) (by kernel_rfl) (by simp) ?_
    refine AllReadyH.cons (o := _) rfl (fun K hK => ?_) ?_
    · obtain ⟨yF, hrun, hbox, hM⟩ := HSd.out.box.put (by omega) HUW.out (entOf r)
      have hrun : (Instr.mapUpdate 183 (.map (some b1)) (.int .i64 r.uid) (.agg #[.int .i64 r.uid, .int .i64 r.time, .int .i64 r.flags, .int .i64 r.body, .int .i64 r.size, .int .i64 r.origin, .bool false])).run Try.prog xs = .ok () yF := hrun
      go_simp
      have hb := hHeld.trans hM (fun x h _ => h)
      have HSd := Lib.hid (HSd.out.step hbox hM (.inr (.inl rfl)) q1)
      clear hrun hbox hM
      refine hK.out _ _ hb (fun _ => ?_)
      clear hK K hHeld
      have hHeld : Mods (· = b1) w4 yF := hb
      clear hb
      try simp only [Act.put, List.setIfInBounds_toArray, List.set_cons_zero, List.set_cons_succ]
      refine wpAnyH_done (by kernel_rfl) ?_ _
      refine NoPanic.normal ?_
      go_wp2_with fail
      go_meet
      exact HSd
    exact AllReadyH.nil
  case rest =>
  obtain ⟨w5, rfl⟩ : ∃ wz : World, wz = wc := ⟨_, rfl⟩
  have HS5 := Lib.hid hcut.out
  clear hcut HSd HS4 c0 a5 a6 a7 a8 a9 a10
  obtain ⟨-, -, -, -, -, a5, -⟩ := rec12 HS5.out.rcd
  have HSd := Lib.hid (HS5.out.kept (Keeps.refl w5).drew)
  have hwp : IntKind.i64.wrap (r.uid + 1) = r.uid + 1 := by rw [IntKind.wrap_i64]; omega
  go_upto_region 7 with fail
  go_cut [67] (fun _ wx => Hid (AddSt w wx Q (recA r (.slice pv nv cv)) g b1 b2 (n + 1) { m with ub := m.ub + r.size, uc := m.uc + 1, ent := upd m.ent r.uid (entOf r), next := if m.next < r.uid + 1 then r.uid + 1 else m.next }))
  case first =>
    refine wp_region_noPanic ?_
    refine wp_region_held_drew (S := fun w' => Mods (· = g) w5 w') (by kernel_rfl) ((Mods.refl (· = g) w5).drew) (fun _ => ?_)
    have hHeld : Mods (· = g) w5 (w5).drew := (Mods.refl (· = g) w5).drew
    generalize World.drew w5 = xs at *
    refine wpAnyH_take (i := 0) (v := ?vv45) (by rfl) (by kernel_rfl) (by kernel_rfl) (by kernel_rfl) (by intro _ _ _ h; exact h) (Or.inl ⟨by kernel_rfl, ?hy45⟩) (by assumption) ?rest45
    case hy45 =>
      intro w' hSw
      have hSw : Mods (· = g) w5 w' := hSw
      clear hSw
      go_simp
      try with_reducible rfl
    change wpAnyH _ _ _ _ _ _ _ (Act.put _ (some 59) _) _
    try simp only [Act.put, List.setIfInBounds_toArray, List.set_cons_zero, List.set_cons_succ]
    refine wpAnyH_take (i := 1) (v := ?vv46) (by rfl) (by kernel_rfl) (by kernel_rfl) (by kernel_rfl) (by intro _ _ _ h; exact h) (Or.inl ⟨by kernel_rfl, ?hy46⟩) (by assumption) ?rest46
    case hy46 =>
      intro w' hSw
      have hSw : Mods (· = g) w5 w' := hSw
      clear hSw
      go_simp
      try with_reducible rfl
    change wpAnyH _ _ _ _ _ _ _ (Act.put _ (some 60) _) _
    try simp only [Act.put, List.setIfInBounds_toArray, List.set_cons_zero, List.set_cons_succ]
    refine wpAnyH_take (i := 2) (v := ?vv47) (by rfl) (by kernel_rfl) (by kernel_rfl) (by kernel_rfl) (by intro _ _ _ h; exact h) (Or.inl ⟨by kernel_rfl, ?hy47⟩) (by assumption) ?rest47
    case hy47 =>
      intro w' hSw
      have hSw : Mods (· = g) w5 w' := hSw
      clear hSw
      go_simp
      try with_reducible rfl
    change wpAnyH _ _ _ _ _ _ _ (Act.put _ (some 61) _) _
    try simp only [Act.put, List.setIfInBounds_toArray, List.set_cons_zero, List.set_cons_succ]
    refine wpAnyH_take (i := 3) (v := ?vv48) (by rfl) (by kernel_rfl) (by kernel_rfl) (by kernel_rfl) (by intro _ _ _ h; exact h) (Or.inl ⟨by kernel_rfl, ?hy48⟩) (by assumption) ?rest48
    case hy48 =>
      intro w' hSw
      have hSw : Mods (· = g) w5 w' := hSw
      clear hSw
      go_simp
      try with_reducible rfl
    change wpAnyH _ _ _ _ _ _ _ (Act.put _ (some 62) _) _
    try simp only [Act.put, List.setIfInBounds_toArray, List.set_cons_zero, List.set_cons_succ]
    refine wpAnyH_take (i := 5) (v := ?vv49) (by rfl) (by kernel_rfl) (by kernel_rfl) (by kernel_rfl) (by intro _ _ _ h; exact h) (Or.inl ⟨by kernel_rfl, ?hy49⟩) (by assumption) ?rest49
    case hy49 =>
      intro w' hSw
      have hSw : Mods (· = g) w5 w' := hSw
      clear hSw
      go_simp
      try with_reducible rfl
    change wpAnyH _ _ _ _ _ _ _ (Act.put _ (some 64) _) _
    try simp only [Act.put, List.setIfInBounds_toArray, List.set_cons_zero, List.set_cons_succ]
    refine wpAnyH_take (i := 6) (v := ?vv50) (by rfl) (by kernel_rfl) (by kernel_rfl) (by kernel_rfl) (by intro _ _ _ h; exact h) (Or.inl ⟨by kernel_rfl, ?hy50⟩) (by assumption) ?rest50
    case hy50 =>
      intro w' hSw
      have hSw : Mods (· = g) w5 w' := hSw
      have h0 := hSw.cell a5 q0
      clear hSw
      go_simp
      try with_reducible rfl
    change wpAnyH _ _ _ _ _ _ _ (Act.put _ (some 65) _) _
    try simp only [Act.put, List.setIfInBounds_toArray, List.set_cons_zero, List.set_cons_succ]
    refine wpAnyH_take (i := 7) (v := ?vv51) (by rfl) (by kernel_rfl) (by kernel_rfl) (by kernel_rfl) (by intro _ _ _ h; exact h) (Or.inl ⟨by kernel_rfl, ?hy51⟩) (by assumption) ?rest51
    case hy51 =>
      intro w' hSw
      have hSw : Mods (· = g) w5 w' := hSw
      clear hSw
      go_simp
      try with_reducible rfl
    change wpAnyH _ _ _ _ _ _ _ (Act.put _ (some 66) _) _
    try simp only [Act.put, List.setIfInBounds_toArray, List.set_cons_zero, List.set_cons_succ]
    refine wpAnyH_ready (rs := [4]) (by kernel_rfl) (by simp) ?_
    refine AllReadyH.cons (o := _) rfl (fun K hK => ?_) ?_
    · have hx : World.cell? xs ⟨g, 2, none⟩ = some (.int .i64 m.next) := HSd.out.box.cells.2.2.1
      go_simp
      clear hx
      have hb := hHeld
      refine hK.out _ _ hb (fun _ => ?_)
      clear hK K hHeld
      have hHeld : Mods (· = g) w5 xs := hb
      clear hb
      try simp only [Act.put, List.setIfInBounds_toArray, List.set_cons_zero, List.set_cons_succ]
      refine wpAnyH_take (i := 8) (v := ?vv52) (by rfl) (by kernel_rfl) (by kernel_rfl) (by kernel_rfl) (by intro _ _ _ h; exact h) (Or.inl ⟨by kernel_rfl, ?hy52⟩) (by assumption) ?rest52
      case hy52 =>
        intro w' hSw
        have hSw : Mods (· = g) w5 w' := hSw
        clear hSw
        go_simp
        try with_reducible rfl
      change wpAnyH _ _ _ _ _ _ _ (Act.put _ (some 67) _) _
      try simp only [Act.put, List.setIfInBounds_toArray, List.set_cons_zero, List.set_cons_succ]
      refine wpAnyH_take (i := 9) (v := ?vv53) (by rfl) (by kernel_rfl) (by kernel_rfl) (by kernel_rfl) (by intro _ _ _ h; exact h) (Or.inl ⟨by kernel_rfl, ?hy53⟩) (by assumption) ?rest53
      case hy53 =>
        intro w' hSw
        have hSw : Mods (· = g) w5 w' := hSw
        clear hSw
        go_simp
        try with_reducible rfl
      change wpAnyH _ _ _ _ _ _ _ (Act.put _ (some 68) _) _
      try simp only [Act.put, List.setIfInBounds_toArray, List.set_cons_zero, List.set_cons_succ]
      refine wpAnyH_take (i := 10) (v := ?vv54) (by rfl) (by kernel_rfl) (by kernel_rfl) (by kernel_rfl) (by intro _ _ _ h; exact h) (Or.inl ⟨by kernel_rfl, ?hy54⟩) (by assumption) ?rest54
      case hy54 =>
        intro w' hSw
        have hSw : Mods (· = g) w5 w' := hSw
        clear hSw
        go_simp
        try with_reducible rfl
      change wpAnyH _ _ _ _ _ _ _ (Act.put _ (some 69) _) _
      try simp only [Act.put, List.setIfInBounds_toArray, List.set_cons_zero, List.set_cons_succ]
      refine wpAnyH_ready (rs := [11]) (by kernel_rfl) (by simp) ?_
      refine AllReadyH.cons (o := _) rfl (fun K hK => ?_) ?_
      · have hx : World.cell? xs ⟨g, 2, none⟩ = some (.int .i64 m.next) := HSd.out.box.cells.2.2.1
        have hz : World.frozen? xs ⟨g, 2, none⟩ = false := HSd.out.box.blk.frozen _
        go_simp
        have hsn := HSd.out.box.setNext (if m.next < r.uid + 1 then r.uid + 1 else m.next)
        have hb := hHeld.trans hsn.2 (fun x h _ => h)
        have HSd := Lib.hid (HSd.out.step hsn.1 hsn.2 (.inl rfl) q0)
        clear hx hz hsn
        generalize World.setCell xs ⟨g, 2, none⟩ (.int .i64 (if m.next < r.uid + 1 then r.uid + 1 else m.next)) = yF at *
        refine hK.out _ _ hb (fun _ => ?_)
        clear hK K hHeld
        have hHeld : Mods (· = g) w5 yF := hb
        clear hb
        try simp only [Act.put, List.setIfInBounds_toArray, List.set_cons_zero, List.set_cons_succ]
        refine wpAnyH_done (by kernel_rfl) ?_ _
        refine NoPanic.normal ?_
        generalize (if m.next < r.uid + 1 then r.uid + 1 else m.next) = nx at *
        go_wp2_with fail
        go_meet
        exact HSd
      exact AllReadyH.nil
    exact AllReadyH.nil
  case rest =>
  obtain ⟨w6, rfl⟩ : ∃ wz : World, wz = wc := ⟨_, rfl⟩
  have HAM : Hid (addM m r = ⟨upd m.ent r.uid (entOf r), if first m r.origin r.uid then upd m.org r.origin r.uid else m.org, if m.next < r.uid + 1 then r.uid + 1 else m.next, m.ub + r.size, m.uc + 1⟩) := Lib.hid rfl
  have HS6 := Lib.hid hcut.out
  clear hcut HSd HS5 a5
  generalize (if m.next < r.uid + 1 then r.uid + 1 else m.next) = nx at *
  obtain ⟨-, c1, -⟩ := HS6.out.box.cells
  obtain ⟨-, -, -, -, -, a5, -, -, -, -, a10, -⟩ := rec12 HS6.out.rcd
  have HLO : Hid (∀ w', Keeps w6 w' → (Instr.lookup 184 (.map (some b2)) (.int .i64 r.origin) true).run Try.prog w' = .ok (.tuple #[.int .i64 ((m.org r.origin).getD 0), .bool (m.org r.origin).isSome]) w') := Lib.hid (fun w' k => (HS6.out.box.keeps k).lookO HOW.out)
  have HFI : Hid (first m r.origin r.uid = (!(m.org r.origin).isSome || decide (r.uid < (m.org r.origin).getD 0))) := Lib.hid (by
    unfold first
    cases m.org r.origin <;> simp)
  generalize (m.org r.origin).isSome = ois at *
  generalize (m.org r.origin).getD 0 = ov at *
  go_upto_region 8 with fail
  go_cut [9, 10] (fun x t wx => x = .int .i64 ov ∧ t = .bool ois ∧ Keeps w6 wx)
  case first =>
    refine wp_region_noPanic ?_
    refine wp_region_held_drew (S := fun w' => Keeps w6 w') (by kernel_rfl) ((Keeps.refl w6).drew) (fun _ => ?_)
    have hHeld : Keeps w6 (w6).drew := (Keeps.refl w6).drew
    generalize World.drew w6 = xs at *
    refine wpAnyH_take (i := 0) (v := ?vv55) (by rfl) (by kernel_rfl) (by kernel_rfl) (by kernel_rfl) (by intro _ _ _ h; exact h) (Or.inl ⟨by kernel_rfl, ?hy55⟩) (by assumption) ?rest55
    case hy55 =>
      intro w' hSw
      have hSw : Keeps w6 w' := hSw
      clear hSw
      go_simp
      try with_reducible rfl
    change wpAnyH _ _ _ _ _ _ _ (Act.put _ (some 71) _) _
    try simp only [Act.put, List.setIfInBounds_toArray, List.set_cons_zero, List.set_cons_succ]
    refine wpAnyH_take (i := 1) (v := ?vv56) (by rfl) (by kernel_rfl) (by kernel_rfl) (by kernel_rfl) (by intro _ _ _ h; exact h) (Or.inl ⟨by kernel_rfl, ?hy56⟩) (by assumption) ?rest56
    case hy56 =>
      intro w' hSw
      have hSw : Keeps w6 w' := hSw
      clear hSw
      go_simp
      try with_reducible rfl
    change wpAnyH _ _ _ _ _ _ _ (Act.put _ (some 72) _) _
    try simp only [Act.put, List.setIfInBounds_toArray, List.set_cons_zero, List.set_cons_succ]
    refine wpAnyH_take (i := 2) (v := ?vv57) (by rfl) (by kernel_rfl) (by kernel_rfl) (by kernel_rfl) (by intro _ _ _ h; exact h) (Or.inl ⟨by kernel_rfl, ?hy57⟩) (by assumption) ?rest57
    case hy57 =>
      intro w' hSw
      have hSw : Keeps w6 w' := hSw
      clear hSw
      go_simp
      try with_reducible rfl
    change wpAnyH _ _ _ _ _ _ _ (Act.put _ (some 73) _) _
    try simp only [Act.put, List.setIfInBounds_toArray, List.set_cons_zero, List.set_cons_succ]
    refine wpAnyH_take (i := 3) (v := ?vv58) (by rfl) (by kernel_rfl) (by kernel_rfl) (by kernel_rfl) (by intro _ _ _ h; exact h) (Or.inl ⟨by kernel_rfl, ?hy58⟩) (by assumption) ?rest58
    case hy58 =>
      intro w' hSw
      have hSw : Keeps w6 w' := hSw
      have h0 := keep1 hSw c1
      clear hSw
      go_simp
      try with_reducible rfl
    change wpAnyH _ _ _ _ _ _ _ (Act.put _ (some 74) _) _
    try simp only [Act.put, List.setIfInBounds_toArray, List.set_cons_zero, List.set_cons_succ]
    refine wpAnyH_take (i := 4) (v := ?vv59) (by rfl) (by kernel_rfl) (by kernel_rfl) (by kernel_rfl) (by intro _ _ _ h; exact h) (Or.inl ⟨by kernel_rfl, ?hy59⟩) (by assumption) ?rest59
    case hy59 =>
      intro w' hSw
      have hSw : Keeps w6 w' := hSw
      clear hSw
      go_simp
      try with_reducible rfl
    change wpAnyH _ _ _ _ _ _ _ (Act.put _ (some 75) _) _
    try simp only [Act.put, List.setIfInBounds_toArray, List.set_cons_zero, List.set_cons_succ]
    refine wpAnyH_take (i := 5) (v := ?vv60) (by rfl) (by kernel_rfl) (by kernel_rfl) (by kernel_rfl) (by intro _ _ _ h; exact h) (Or.inl ⟨by kernel_rfl, ?hy60⟩) (by assumption) ?rest60
    case hy60 =>
      intro w' hSw
      have hSw : Keeps w6 w' := hSw
      have h0 := keep1 hSw a10
      clear hSw
      go_simp
      try with_reducible rfl
    change wpAnyH _ _ _ _ _ _ _ (Act.put _ (some 76) _) _
    try simp only [Act.put, List.setIfInBounds_toArray, List.set_cons_zero, List.set_cons_succ]
    refine wpAnyH_take (i := 6) (v := ?vv61) (by rfl) (by kernel_rfl) (by kernel_rfl) (by kernel_rfl) (by intro _ _ _ h; exact h) (Or.inl ⟨by kernel_rfl, ?hy61⟩) (by assumption) ?rest61
    case hy61 =>
      intro w' hSw
      have hSw : Keeps w6 w' := hSw
      have h0 := HLO.out w' hSw
      clear hSw
      go_simp
      try with_reducible rfl
    change wpAnyH _ _ _ _ _ _ _ (Act.put _ (some 77) _) _
    try simp only [Act.put, List.setIfInBounds_toArray, List.set_cons_zero, List.set_cons_succ]
    refine wpAnyH_take (i := 7) (v := ?vv62) (by rfl) (by kernel_rfl) (by kernel_rfl) (by kernel_rfl) (by intro _ _ _ h; exact h) (Or.inl ⟨by kernel_rfl, ?hy62⟩) (by assumption) ?rest62
    case hy62 =>
      intro w' hSw
      have hSw : Keeps w6 w' := hSw
      clear hSw
      go_simp
      try with_reducible rfl
    change wpAnyH _ _ _ _ _ _ _ (Act.put _ (some 70) _) _
    try simp only [Act.put, List.setIfInBounds_toArray, List.set_cons_zero, List.set_cons_succ]
    refine wpAnyH_take (i := 8) (v := ?vv63) (by rfl) (by kernel_rfl) (by kernel_rfl) (by kernel_rfl) (by intro _ _ _ h; exact h) (Or.inl ⟨by kernel_rfl, ?hy63⟩) (by assumption) ?rest63
    case hy63 =>
      intro w' hSw
      have hSw : Keeps w6 w' := hSw
      clear hSw
      go_simp
      try with_reducible rfl
    change wpAnyH _ _ _ _ _ _ _ (Act.put _ (some 78) _) _
    try simp only [Act.put, List.setIfInBounds_toArray, List.set_cons_zero, List.set_cons_succ]
    refine wpAnyH_take (i := 9) (v := ?vv64) (by rfl) (by kernel_rfl) (by kernel_rfl) (by kernel_rfl) (by intro _ _ _ h; exact h) (Or.inl ⟨by kernel_rfl, ?hy64⟩) (by assumption) ?rest64
    case hy64 =>
      intro w' hSw
      have hSw : Keeps w6 w' := hSw
      clear hSw
      go_simp
      try with_reducible rfl
    change wpAnyH _ _ _ _ _ _ _ (Act.put _ (some 79) _) _
    try simp only [Act.put, List.setIfInBounds_toArray, List.set_cons_zero, List.set_cons_succ]
    refine wpAnyH_take (i := 10) (v := ?vv65) (by rfl) (by kernel_rfl) (by kernel_rfl) (by kernel_rfl) (by intro _ _ _ h; exact h) (Or.inl ⟨by kernel_rfl, ?hy65⟩) (by assumption) ?rest65
    case hy65 =>
      intro w' hSw
      have hSw : Keeps w6 w' := hSw
      clear hSw
      go_simp
      try with_reducible rfl
    change wpAnyH _ _ _ _ _ _ _ (Act.put _ (some 9) _) _
    try simp only [Act.put, List.setIfInBounds_toArray, List.set_cons_zero, List.set_cons_succ]
    refine wpAnyH_take (i := 11) (v := ?vv66) (by rfl) (by kernel_rfl) (by kernel_rfl) (by kernel_rfl) (by intro _ _ _ h; exact h) (Or.inl ⟨by kernel_rfl, ?hy66⟩) (by assumption) ?rest66
    case hy66 =>
      intro w' hSw
      have hSw : Keeps w6 w' := hSw
      clear hSw
      go_simp
      try with_reducible rfl
    change wpAnyH _ _ _ _ _ _ _ (Act.put _ (some 10) _) _
    try simp only [Act.put, List.setIfInBounds_toArray, List.set_cons_zero, List.set_cons_succ]
    refine wpAnyH_done (by kernel_rfl) ?_ _
    refine NoPanic.normal ?_
    go_wp2_with fail
    go_meet
    exact ⟨rfl, rfl, hHeld⟩
  case rest =>
  obtain ⟨rfl, rfl, hkc⟩ := hcut
  obtain ⟨w7, rfl⟩ : ∃ wz : World, wz = wc := ⟨_, rfl⟩
  have HS7 := Lib.hid (HS6.out.kept hkc)
  clear hkc HS6 HLO c1 a5 a10
  obtain ⟨-, c1, -⟩ := HS7.out.box.cells
  obtain ⟨-, -, -, -, -, a5, -, -, -, -, a10, -⟩ := rec12 HS7.out.rcd
  go_upto_region 9 with fail
  go_cut [87] (fun t wx => t = .bool (first m r.origin r.uid) ∧ wx = w7)
  case first =>
    cases ois with
    | false =>
      go_wp2_with fail
      go_meet
      exact ⟨by rw [HFI.out]; rfl, rfl⟩
    | true =>
      go_wp2_with fail
      go_meet
      exact ⟨by rw [HFI.out]; rfl, rfl⟩
  case rest =>
  obtain ⟨rfl, rfl⟩ := hcut
  obtain ⟨w7, rfl⟩ : ∃ wz : World, wz = wc := ⟨_, rfl⟩
  clear HFI
  generalize first m r.origin r.uid = fi at *
  cases fi with
  | false =>
    go_wp2_with fail
    go_ret
    refine ⟨(congrArg (fun r : Box × Bool => Ending.returned (Value.bool r.2)) HX.out).symm, ?_, HS7.out.mods⟩
    rw [HX.out]
    rw [HAM.out]
    exact HS7.out.box.mono (by omega)
  | true =>
    have HSd := Lib.hid (HS7.out.kept (Keeps.refl w7).drew)
    go_upto_region 10 with fail
    refine wp_region_noPanic ?_
    refine wp_region_held_drew (S := fun w' => Mods (· = b2) w7 w') (by kernel_rfl) ((Mods.refl (· = b2) w7).drew) (fun _ => ?_)
    have hHeld : Mods (· = b2) w7 (w7).drew := (Mods.refl (· = b2) w7).drew
    generalize World.drew w7 = xs at *
    refine wpAnyH_take (i := 0) (v := ?vv67) (by rfl) (by kernel_rfl) (by kernel_rfl) (by kernel_rfl) (by intro _ _ _ h; exact h) (Or.inl ⟨by kernel_rfl, ?hy67⟩) (by assumption) ?rest67
    case hy67 =>
      intro w' hSw
      have hSw : Mods (· = b2) w7 w' := hSw
      clear hSw
      go_simp
      try with_reducible rfl
    change wpAnyH _ _ _ _ _ _ _ (Act.put _ (some 88) _) _
    try simp only [Act.put, List.setIfInBounds_toArray, List.set_cons_zero, List.set_cons_succ]
    refine wpAnyH_take (i := 1) (v := ?vv68) (by rfl) (by kernel_rfl) (by kernel_rfl) (by kernel_rfl) (by intro _ _ _ h; exact h) (Or.inl ⟨by kernel_rfl, ?hy68⟩) (by assumption) ?rest68
    case hy68 =>
      intro w' hSw
      have hSw : Mods (· = b2) w7 w' := hSw
      clear hSw
      go_simp
      try with_reducible rfl
    change wpAnyH _ _ _ _ _ _ _ (Act.put _ (some 89) _) _
    try simp only [Act.put, List.setIfInBounds_toArray, List.set_cons_zero, List.set_cons_succ]
    refine wpAnyH_take (i := 2) (v := ?vv69) (by rfl) (by kernel_rfl) (by kernel_rfl) (by kernel_rfl) (by intro _ _ _ h; exact h) (Or.inl ⟨by kernel_rfl, ?hy69⟩) (by assumption) ?rest69
    case hy69 =>
      intro w' hSw
      have hSw : Mods (· = b2) w7 w' := hSw
      clear hSw
      go_simp
      try with_reducible rfl
    change wpAnyH _ _ _ _ _ _ _ (Act.put _ (some 90) _) _
    try simp only [Act.put, List.setIfInBounds_toArray, List.set_cons_zero, List.set_cons_succ]
    refine wpAnyH_take (i := 3) (v := ?vv70) (by rfl) (by kernel_rfl) (by kernel_rfl) (by kernel_rfl) (by intro _ _ _ h; exact h) (Or.inl ⟨by kernel_rfl, ?hy70⟩) (by assumption) ?rest70
    case hy70 =>
      intro w' hSw
      have hSw : Mods (· = b2) w7 w' := hSw
      have h0 := hSw.cell c1 hgb2
      clear hSw
      go_simp
      try with_reducible rfl
    change wpAnyH _ _ _ _ _ _ _ (Act.put _ (some 91) _) _
    try simp only [Act.put, List.setIfInBounds_toArray, List.set_cons_zero, List.set_cons_succ]
    refine wpAnyH_take (i := 4) (v := ?vv71) (by rfl) (by kernel_rfl) (by kernel_rfl) (by kernel_rfl) (by intro _ _ _ h; exact h) (Or.inl ⟨by kernel_rfl, ?hy71⟩) (by assumption) ?rest71
    case hy71 =>
      intro w' hSw
      have hSw : Mods (· = b2) w7 w' := hSw
      clear hSw
      go_simp
      try with_reducible rfl
    change wpAnyH _ _ _ _ _ _ _ (Act.put _ (some 92) _) _
    try simp only [Act.put, List.setIfInBounds_toArray, List.set_cons_zero, List.set_cons_succ]
    refine wpAnyH_take (i := 5) (v := ?vv72) (by rfl) (by kernel_rfl) (by kernel_rfl) (by kernel_rfl) (by intro _ _ _ h; exact h) (Or.inl ⟨by kernel_rfl, ?hy72⟩) (by assumption) ?rest72
    case hy72 =>
      intro w' hSw
      have hSw : Mods (· = b2) w7 w' := hSw
      have h0 := hSw.cell a10 q2
      clear hSw
      go_simp
      try with_reducible rfl
    change wpAnyH _ _ _ _ _ _ _ (Act.put _ (some 93) _) _
    try simp only [Act.put, List.setIfInBounds_toArray, List.set_cons_zero, List.set_cons_succ]
    refine wpAnyH_take (i := 6) (v := ?vv73) (by rfl) (by kernel_rfl) (by kernel_rfl) (by kernel_rfl) (by intro _ _ _ h; exact h) (Or.inl ⟨by kernel_rfl, ?hy73⟩) (by assumption) ?rest73
    case hy73 =>
      intro w' hSw
      have hSw : Mods (· = b2) w7 w' := hSw
      clear hSw
      go_simp
      try with_reducible rfl
    change wpAnyH _ _ _ _ _ _ _ (Act.put _ (some 94) _) _
    try simp only [Act.put, List.setIfInBounds_toArray, List.set_cons_zero, List.set_cons_succ]
    refine wpAnyH_take (i := 7) (v := ?vv74) (by rfl) (by kernel_rfl) (by kernel_rfl) (by kernel_rfl) (by intro _ _ _ h; exact h) (Or.inl ⟨by kernel_rfl, ?hy74⟩) (by assumption) ?rest74
    case hy74 =>
      intro w' hSw
      have hSw : Mods (· = b2) w7 w' := hSw
      have h0 := hSw.cell a5 q2
      clear hSw
      go_simp
      try with_reducible rfl
    change wpAnyH _ _ _ _ _ _ _ (Act.put _ (some 95) _) _
    try simp only [Act.put, List.setIfInBounds_toArray, List.set_cons_zero, List.set_cons_succ]
    refine wpAnyH_ready (rs := [8]) (by kernel_rfl) (by simp) ?_
    refine AllReadyH.cons (o := _) rfl (fun K hK => ?_) ?_
    · obtain ⟨yF, hrun, hbox, hM⟩ := HSd.out.box.putO (y := r.uid) (by omega) HOW.out
      go_simp
      have hb := hHeld.trans hM (fun x h _ => h)
      have HSd := Lib.hid (HSd.out.step hbox hM (.inr (.inr rfl)) q2)
      clear hrun hbox hM
      refine hK.out _ _ hb (fun _ => ?_)
      clear hK K hHeld
      have hHeld : Mods (· = b2) w7 yF := hb
      clear hb
      try simp only [Act.put, List.setIfInBounds_toArray, List.set_cons_zero, List.set_cons_succ]
      refine wpAnyH_done (by kernel_rfl) ?_ _
      refine NoPanic.normal ?_
      go_wp2_with fail
      go_ret
      refine ⟨(congrArg (fun r : Box × Bool => Ending.returned (Value.bool r.2)) HX.out).symm, ?_, HSd.out.mods⟩
      rw [HX.out]
      rw [HAM.out]
      exact HSd.out.box
    exact AllReadyH.nil
end Mbx
end Go.Proofs.Ytohchhgheeolpaa
