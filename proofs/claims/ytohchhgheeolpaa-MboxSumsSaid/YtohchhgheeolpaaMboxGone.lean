/- mbox.gone, flag. -/
import Derived.Test.YtohchhgheeolpaaMboxLive
namespace Go.Proofs.Ytohchhgheeolpaa
open Go.RowKit
namespace Mbx
open Rcd Go.Maps

/-- what a call makes of the mailbox, and its answer -/
def BoxDid (W : World) (g b1 b2 n : Nat) (r : Box × Bool) (e : Ending) (w' : World) : Prop := e = .returned (.bool r.2) ∧ BoxAt w' g b1 b2 n r.1 ∧ Mods (BFr g b1 b2) W w'
theorem live_some {m : Box} {x : Int} (h : liveB m x = true) : live m x = some ((m.ent x).getD zeroEnt) := by
  unfold liveB at h
  unfold live
  cases e : m.ent x with
  | none => rw [e] at h; simp at h
  | some v =>
    rw [e] at h
    simp at h
    simp [h]
theorem live_none {m : Box} {x : Int} (h : liveB m x = false) : live m x = none := by
  unfold liveB at h
  unfold live
  cases e : m.ent x with
  | none => rfl
  | some v =>
    rw [e] at h
    simp at h
    simp [h]

set_option maxRecDepth 100000 in
set_option maxHeartbeats 2000000 in
theorem flag_any (w : World) {g b1 b2 n : Nat} {m : Box} (h : BoxAt w g b1 b2 n m) (hn : n < 1000000) (x f : Int) (hx : (Lit.int .i64 x).wf = true) : Calls Try.prog 136 #[.pointer (some ⟨g, 0, none⟩), .int .i64 x, .int .i64 f] w (BoxDid w g b1 b2 (n + 1) (flag m x f)) := by
  have HB := Lib.hid h
  have HL := Lib.hid (live_any w h x hx)
  clear h
  by_cases hl : liveB m x = true
  case neg =>
    have hl' : liveB m x = false := by simpa using hl
    have HX : Hid (flag m x f = (m, false)) := Lib.hid (by unfold flag; rw [live_none hl'])
    rw [hl'] at HL
    clear hl hl'
    go_enter Try.func136, Try.ntmps136
    go_wp2_with fail
    refine HL.out.mono ?_
    rintro e w1 ⟨rfl, hk1⟩
    unfold entA
    go_wp2_with fail
    go_ret
    exact ⟨(congrArg (fun r : Box × Bool => Ending.returned (Value.bool r.2)) HX.out).symm, by rw [HX.out]; exact (HB.out.keeps (hk1.alloc _)).mono (Nat.le_succ n), Mods.of_keeps (hk1.alloc _)⟩
  have HX : Hid (flag m x f = (flagM m x ((m.ent x).getD zeroEnt) f, true)) := Lib.hid (by unfold flag; rw [live_some hl])
  rw [hl] at HL
  clear hl
  generalize (m.ent x).getD zeroEnt = E at *
  go_enter Try.func136, Try.ntmps136
  go_wp2_with fail
  refine HL.out.mono ?_
  rintro e w1 ⟨rfl, hk1⟩
  unfold entA
  go_upto_region 4 with fail
  generalize hW : World.alloc w1 _ = w2
  have HK2 := Lib.hid (show Keeps w w2 from by rw [← hW]; exact hk1.alloc _)
  have HE := Lib.hid (show Blk w2 w1.heap.size 85 (entA E) from by rw [← hW]; exact Blk.new _ _ _ rfl)
  have hlt : ∀ y, BFr g b1 b2 y → y < w1.heap.size := fun y hy => Nat.lt_of_lt_of_le (HB.out.lt y hy) hk1.size
  have HBX := Lib.hid (HB.out.keeps HK2.out)
  have hneb : ¬ w1.heap.size = b1 := by have := hlt b1 (.inr (.inl rfl)); omega
  have hge : w.heap.size ≤ w1.heap.size := hk1.size
  clear hW hlt hk1 HL
  generalize w1.heap.size = b at *
  have hx2 : w2.cell? ⟨b, 2, none⟩ = some (.int .i64 E.flags) := by rw [HE.out.cell]; rfl
  have hz2 : w2.frozen? ⟨b, 2, none⟩ = false := HE.out.frozen _
  go_upto_region 5 with fail
  generalize hW : World.setCell w2 _ _ = w3
  have HK3 := Lib.hid (show Keeps w w3 from by rw [← hW]; exact HK2.out.setCell (p := ⟨b, 2, none⟩) hge _)
  have HE3 := Lib.hid (show Blk w3 b 85 (entA { E with flags := f }) from by rw [← hW]; exact HE.out.set_ 2 _)
  have hM23 : Mods (· = b) w2 w3 := by rw [← hW]; exact (Mods.refl (· = b) w2).setCell (p := ⟨b, 2, none⟩) (fun _ => rfl) _
  have hbg : g ≠ b := fun e => by have h1 := HBX.out.blk; have h2 := HE.out; rw [← e] at h2; unfold Blk at h1 h2; rw [h1] at h2; simp at h2
  have hb2' : b2 ≠ b := fun e => by
    obtain ⟨D, ⟨es, ck, hh, _⟩, _⟩ := HBX.out.org
    have h2 := HE.out; rw [← e] at h2; unfold Blk at h2; rw [hh] at h2; simp at h2
  have HB3 : Hid (BoxAt w3 g b1 b2 n m) := Lib.hid ⟨HBX.out.blk.mods hM23 hbg, let ⟨D, h1, h2⟩ := HBX.out.ent; ⟨D, map_mods h1 hM23 (fun e => hneb e.symm), h2⟩, let ⟨D, h1, h2⟩ := HBX.out.org; ⟨D, map_mods h1 hM23 hb2', h2⟩, HBX.out.d1, HBX.out.d2, HBX.out.d12⟩
  obtain ⟨c0, -⟩ := HB3.out.cells
  have HBd := Lib.hid (HB3.out.keeps (Keeps.refl w3).drew)
  have hgb : ¬ g = b1 := fun e => HB3.out.d1 e.symm
  clear hW hM23 hx2 hz2 HB3 HBX HE
  refine wp_region_noPanic ?_
  refine wp_region_held_drew (S := fun w' => Mods (· = b1) w3 w') (by kernel_rfl) ((Mods.refl (· = b1) w3).drew) (fun _ => ?_)
  have hHeld : Mods (· = b1) w3 (w3).drew := (Mods.refl (· = b1) w3).drew
  generalize World.drew w3 = xs at *
  refine wpAnyH_take (i := 0) (v := ?vv1) (by rfl) (by kernel_rfl) (by kernel_rfl) (by kernel_rfl) (by intro _ _ _ h; exact h) (Or.inl ⟨by kernel_rfl, ?hy1⟩) (by assumption) ?rest1
  case hy1 =>
    intro w' hSw
    have hSw : Mods (· = b1) w3 w' := hSw
    clear hSw
    go_simp
    try with_reducible rfl
  change wpAnyH _ _ _ _ _ _ _ (Act.put _ (some 19) _) _
  try simp only [Act.put, List.setIfInBounds_toArray, List.set_cons_zero, List.set_cons_succ]
  refine wpAnyH_take (i := 1) (v := ?vv2) (by rfl) (by kernel_rfl) (by kernel_rfl) (by kernel_rfl) (by intro _ _ _ h; exact h) (Or.inl ⟨by kernel_rfl, ?hy2⟩) (by assumption) ?rest2
  case hy2 =>
    intro w' hSw
    have hSw : Mods (· = b1) w3 w' := hSw
    clear hSw
    go_simp
    try with_reducible rfl
  change wpAnyH _ _ _ _ _ _ _ (Act.put _ (some 20) _) _
  try simp only [Act.put, List.setIfInBounds_toArray, List.set_cons_zero, List.set_cons_succ]
  refine wpAnyH_take (i := 2) (v := ?vv3) (by rfl) (by kernel_rfl) (by kernel_rfl) (by kernel_rfl) (by intro _ _ _ h; exact h) (Or.inl ⟨by kernel_rfl, ?hy3⟩) (by assumption) ?rest3
  case hy3 =>
    intro w' hSw
    have hSw : Mods (· = b1) w3 w' := hSw
    clear hSw
    go_simp
    try with_reducible rfl
  change wpAnyH _ _ _ _ _ _ _ (Act.put _ (some 21) _) _
  try simp only [Act.put, List.setIfInBounds_toArray, List.set_cons_zero, List.set_cons_succ]
  refine wpAnyH_take (i := 3) (v := ?vv4) (by rfl) (by kernel_rfl) (by kernel_rfl) (by kernel_rfl) (by intro _ _ _ h; exact h) (Or.inl ⟨by kernel_rfl, ?hy4⟩) (by assumption) ?rest4
  case hy4 =>
    intro w' hSw
    have hSw : Mods (· = b1) w3 w' := hSw
    have h0 := hSw.cell c0 hgb
    clear hSw
    go_simp
    try with_reducible rfl
  change wpAnyH _ _ _ _ _ _ _ (Act.put _ (some 22) _) _
  try simp only [Act.put, List.setIfInBounds_toArray, List.set_cons_zero, List.set_cons_succ]
  refine wpAnyH_take (i := 4) (v := ?vv5) (by rfl) (by kernel_rfl) (by kernel_rfl) (by kernel_rfl) (by intro _ _ _ h; exact h) (Or.inl ⟨by kernel_rfl, ?hy5⟩) (by assumption) ?rest5
  case hy5 =>
    intro w' hSw
    have hSw : Mods (· = b1) w3 w' := hSw
    clear hSw
    go_simp
    try with_reducible rfl
  change wpAnyH _ _ _ _ _ _ _ (Act.put _ (some 23) _) _
  try simp only [Act.put, List.setIfInBounds_toArray, List.set_cons_zero, List.set_cons_succ]
  refine wpAnyH_take (i := 5) (by rfl) (by kernel_rfl) (by kernel_rfl) (by kernel_rfl) (by intro _ _ _ h; exact h) (yieldsIf_ld (by kernel_rfl) entM (fun w' hS => HE3.out.mods hS hneb) _ rfl rfl) (by assumption) ?rest6
  change wpAnyH _ _ _ _ _ _ _ (Act.put _ (some 24) _) _
  try simp only [Act.put, List.setIfInBounds_toArray, List.set_cons_zero, List.set_cons_succ]
  refine wpAnyH_ready (rs := [6]) (by kernel_rfl) (by simp) ?_
  refine AllReadyH.cons (o := _) rfl (fun K hK => ?_) ?_
  · obtain ⟨yF, hrun, hbox, hM⟩ := HBd.out.put hn hx { E with flags := f }
    have hrun : (Instr.mapUpdate 183 (.map (some b1)) (.int .i64 x) (.agg (entA { E with flags := f }))).run Try.prog xs = .ok () yF := hrun
    go_simp
    have hb := hHeld.trans hM (fun x h _ => h)
    have HBd := Lib.hid hbox
    clear hrun hbox hM
    refine hK.out _ _ hb (fun _ => ?_)
    clear hK K hHeld
    have hHeld : Mods (· = b1) w3 yF := hb
    clear hb
    try simp only [Act.put, List.setIfInBounds_toArray, List.set_cons_zero, List.set_cons_succ]
    refine wpAnyH_done (by kernel_rfl) ?_ _
    refine NoPanic.normal ?_
    go_wp2_with fail
    go_ret
    exact ⟨(congrArg (fun r : Box × Bool => Ending.returned (Value.bool r.2)) HX.out).symm, by rw [HX.out]; exact HBd.out, (Mods.of_keeps (S := BFr g b1 b2) HK3.out).trans hHeld (fun y hy _ => .inr (.inl hy))⟩
  exact AllReadyH.nil

theorem takeB_eq (u c s : Int) : Quota.takeB u c s = takeB u c s := by
  unfold Quota.takeB takeB Quota.sumB sumB
  simp [Bool.decide_and]
theorem putB_eq (u c s : Int) : Quota.putB u c s = putB u c s := by
  unfold Quota.putB putB Quota.addB addB Quota.sumB sumB
  rw [Bool.eq_iff_iff]
  simp
  omega
theorem boxMods {w w' : World} {g b1 b2 n b : Nat} {m : Box} (h : BoxAt w g b1 b2 n m) (k : Mods (· = b) w w') (h0 : g ≠ b) (h1 : b1 ≠ b) (h2 : b2 ≠ b) : BoxAt w' g b1 b2 n m :=
  ⟨h.blk.mods k h0, let ⟨D, a, c⟩ := h.ent; ⟨D, map_mods a k h1, c⟩, let ⟨D, a, c⟩ := h.org; ⟨D, map_mods a k h2, c⟩, h.d1, h.d2, h.d12⟩

set_option maxRecDepth 100000 in
set_option maxHeartbeats 2000000 in
theorem gone_any (w : World) {g b1 b2 n : Nat} {m : Box} (h : BoxAt w g b1 b2 n m) (hn : n < 1000000) (x : Int) (hx : (Lit.int .i64 x).wf = true) : Calls Try.prog 135 #[.pointer (some ⟨g, 0, none⟩), .int .i64 x] w (BoxDid w g b1 b2 (n + 1) (gone m x)) := by
  have HB := Lib.hid h
  have HL := Lib.hid (live_any w h x hx)
  clear h
  by_cases hl : liveB m x = true
  case neg =>
    have hl' : liveB m x = false := by simpa using hl
    have HX : Hid (gone m x = (m, false)) := Lib.hid (by unfold gone; rw [live_none hl'])
    rw [hl'] at HL
    clear hl hl'
    go_enter Try.func135, Try.ntmps135
    go_wp2_with fail
    refine HL.out.mono ?_
    rintro e w1 ⟨rfl, hk1⟩
    unfold entA
    go_wp2_with fail
    go_ret
    exact ⟨(congrArg (fun r : Box × Bool => Ending.returned (Value.bool r.2)) HX.out).symm, by rw [HX.out]; exact (HB.out.keeps (hk1.alloc _)).mono (Nat.le_succ n), Mods.of_keeps (hk1.alloc _)⟩
  have HX : Hid (gone m x = (goneM m x ((m.ent x).getD zeroEnt), true)) := Lib.hid (by unfold gone; rw [live_some hl])
  rw [hl] at HL
  clear hl
  generalize (m.ent x).getD zeroEnt = E at *
  go_enter Try.func135, Try.ntmps135
  go_wp2_with fail
  refine HL.out.mono ?_
  rintro e w1 ⟨rfl, hk1⟩
  unfold entA
  go_upto_region 4 with fail
  generalize hW : World.alloc w1 _ = w2
  have HK2 := Lib.hid (show Keeps w w2 from by rw [← hW]; exact hk1.alloc _)
  have HE := Lib.hid (show Blk w2 w1.heap.size 85 (entA E) from by rw [← hW]; exact Blk.new _ _ _ rfl)
  have hlt : ∀ y, BFr g b1 b2 y → y < w1.heap.size := fun y hy => Nat.lt_of_lt_of_le (HB.out.lt y hy) hk1.size
  have HBX := Lib.hid (HB.out.keeps HK2.out)
  have hn1 : ¬ w1.heap.size = b1 := by have := hlt b1 (.inr (.inl rfl)); omega
  have hn2 : ¬ w1.heap.size = b2 := by have := hlt b2 (.inr (.inr rfl)); omega
  have hn0 : ¬ w1.heap.size = g := by have := hlt g (.inl rfl); omega
  have hge : w.heap.size ≤ w1.heap.size := hk1.size
  clear hW hlt hk1 HL
  generalize w1.heap.size = b at *
  have hx4 : w2.cell? ⟨b, 4, none⟩ = some (.int .i64 E.size) := by rw [HE.out.cell]; rfl
  have HBd := Lib.hid (HBX.out.keeps (Keeps.refl w2).drew)
  have HQ := Lib.hid (fun w => Quota.take_any m.ub m.uc E.size w)
  have HTV : Hid (Quota.takeV m.ub m.uc E.size = (if takeB m.ub m.uc E.size then m.ub - E.size else 0) ∧ Quota.takeC m.ub m.uc E.size = (if takeB m.ub m.uc E.size then m.uc - 1 else 0)) := Lib.hid ⟨by unfold Quota.takeV; rw [takeB_eq], by unfold Quota.takeC; rw [takeB_eq]⟩
  generalize Quota.takeV m.ub m.uc E.size = tv at *
  generalize Quota.takeC m.ub m.uc E.size = tc at *
  generalize Quota.takeB m.ub m.uc E.size = tb at *
  have HEd := Lib.hid (HE.out.drew)
  clear HBX
  go_cut [15] (fun _ wx => Hid (BoxAt wx g b1 b2 n { m with ub := tv, uc := tc } ∧ Blk wx b 85 (entA E) ∧ Mods (· = g) w2 wx))
  case first =>
    refine wp_region_noPanic ?_
    refine wp_region_held_drew (S := fun w' => Mods (· = g) w2 w') (by kernel_rfl) ((Mods.refl (· = g) w2).drew) (fun _ => ?_)
    have hHeld : Mods (· = g) w2 (w2).drew := (Mods.refl (· = g) w2).drew
    generalize World.drew w2 = xs at *
    refine wpAnyH_take (i := 0) (v := ?vv7) (by rfl) (by kernel_rfl) (by kernel_rfl) (by kernel_rfl) (by intro _ _ _ h; exact h) (Or.inl ⟨by kernel_rfl, ?hy7⟩) (by assumption) ?rest7
    case hy7 =>
      intro w' hSw
      have hSw : Mods (· = g) w2 w' := hSw
      clear hSw
      go_simp
      try with_reducible rfl
    change wpAnyH _ _ _ _ _ _ _ (Act.put _ (some 16) _) _
    try simp only [Act.put, List.setIfInBounds_toArray, List.set_cons_zero, List.set_cons_succ]
    refine wpAnyH_take (i := 1) (v := ?vv8) (by rfl) (by kernel_rfl) (by kernel_rfl) (by kernel_rfl) (by intro _ _ _ h; exact h) (Or.inl ⟨by kernel_rfl, ?hy8⟩) (by assumption) ?rest8
    case hy8 =>
      intro w' hSw
      have hSw : Mods (· = g) w2 w' := hSw
      clear hSw
      go_simp
      try with_reducible rfl
    change wpAnyH _ _ _ _ _ _ _ (Act.put _ (some 17) _) _
    try simp only [Act.put, List.setIfInBounds_toArray, List.set_cons_zero, List.set_cons_succ]
    refine wpAnyH_take (i := 2) (v := ?vv9) (by rfl) (by kernel_rfl) (by kernel_rfl) (by kernel_rfl) (by intro _ _ _ h; exact h) (Or.inl ⟨by kernel_rfl, ?hy9⟩) (by assumption) ?rest9
    case hy9 =>
      intro w' hSw
      have hSw : Mods (· = g) w2 w' := hSw
      clear hSw
      go_simp
      try with_reducible rfl
    change wpAnyH _ _ _ _ _ _ _ (Act.put _ (some 18) _) _
    try simp only [Act.put, List.setIfInBounds_toArray, List.set_cons_zero, List.set_cons_succ]
    refine wpAnyH_take (i := 3) (v := ?vv10) (by rfl) (by kernel_rfl) (by kernel_rfl) (by kernel_rfl) (by intro _ _ _ h; exact h) (Or.inl ⟨by kernel_rfl, ?hy10⟩) (by assumption) ?rest10
    case hy10 =>
      intro w' hSw
      have hSw : Mods (· = g) w2 w' := hSw
      clear hSw
      go_simp
      try with_reducible rfl
    change wpAnyH _ _ _ _ _ _ _ (Act.put _ (some 19) _) _
    try simp only [Act.put, List.setIfInBounds_toArray, List.set_cons_zero, List.set_cons_succ]
    refine wpAnyH_take (i := 5) (v := ?vv11) (by rfl) (by kernel_rfl) (by kernel_rfl) (by kernel_rfl) (by intro _ _ _ h; exact h) (Or.inl ⟨by kernel_rfl, ?hy11⟩) (by assumption) ?rest11
    case hy11 =>
      intro w' hSw
      have hSw : Mods (· = g) w2 w' := hSw
      clear hSw
      go_simp
      try with_reducible rfl
    change wpAnyH _ _ _ _ _ _ _ (Act.put _ (some 21) _) _
    try simp only [Act.put, List.setIfInBounds_toArray, List.set_cons_zero, List.set_cons_succ]
    refine wpAnyH_take (i := 6) (v := ?vv12) (by rfl) (by kernel_rfl) (by kernel_rfl) (by kernel_rfl) (by intro _ _ _ h; exact h) (Or.inl ⟨by kernel_rfl, ?hy12⟩) (by assumption) ?rest12
    case hy12 =>
      intro w' hSw
      have hSw : Mods (· = g) w2 w' := hSw
      have h0 := hSw.cell hx4 hn0
      clear hSw
      go_simp
      try with_reducible rfl
    change wpAnyH _ _ _ _ _ _ _ (Act.put _ (some 22) _) _
    try simp only [Act.put, List.setIfInBounds_toArray, List.set_cons_zero, List.set_cons_succ]
    refine wpAnyH_ready (rs := [4]) (by kernel_rfl) (by simp) ?_
    refine AllReadyH.cons (o := _) rfl (fun K hK => ?_) ?_
    · have h3 : World.cell? xs ⟨g, 3, none⟩ = some (.int .i64 m.ub) := HBd.out.cells.2.2.2.1
      have h4 : World.cell? xs ⟨g, 4, none⟩ = some (.int .i64 m.uc) := HBd.out.cells.2.2.2.2
      go_simp
      clear h3 h4
      have hb := hHeld
      refine hK.out _ _ hb (fun _ => ?_)
      clear hK K hHeld
      have hHeld : Mods (· = g) w2 xs := hb
      clear hb
      try simp only [Act.put, List.setIfInBounds_toArray, List.set_cons_zero, List.set_cons_succ]
      refine wpAnyH_ready (rs := [7]) (by kernel_rfl) (by simp) ?_
      refine AllReadyH.cons (o := _) rfl (fun K hK => ?_) ?_
      · go_simp
        refine (HQ.out _).mono ?_
        rintro e yA ⟨rfl, hk⟩
        have hb := hHeld.then hk
        have HBd := Lib.hid (HBd.out.keeps hk)
        have HEd := Lib.hid (HEd.out.keeps hk)
        clear hk
        go_wp2_with fail
        refine hK.out _ _ hb (fun _ => ?_)
        clear hK K hHeld
        have hHeld : Mods (· = g) w2 yA := hb
        clear hb
        try simp only [Act.put, List.setIfInBounds_toArray, List.set_cons_zero, List.set_cons_succ]
        refine wpAnyH_take (i := 8) (v := ?vv13) (by rfl) (by kernel_rfl) (by kernel_rfl) (by kernel_rfl) (by intro _ _ _ h; exact h) (Or.inl ⟨by kernel_rfl, ?hy13⟩) (by assumption) ?rest13
        case hy13 =>
          intro w' hSw
          have hSw : Mods (· = g) w2 w' := hSw
          clear hSw
          go_simp
          try with_reducible rfl
        change wpAnyH _ _ _ _ _ _ _ (Act.put _ (some 15) _) _
        try simp only [Act.put, List.setIfInBounds_toArray, List.set_cons_zero, List.set_cons_succ]
        refine wpAnyH_take (i := 9) (v := ?vv14) (by rfl) (by kernel_rfl) (by kernel_rfl) (by kernel_rfl) (by intro _ _ _ h; exact h) (Or.inl ⟨by kernel_rfl, ?hy14⟩) (by assumption) ?rest14
        case hy14 =>
          intro w' hSw
          have hSw : Mods (· = g) w2 w' := hSw
          clear hSw
          go_simp
          try with_reducible rfl
        change wpAnyH _ _ _ _ _ _ _ (Act.put _ (some 24) _) _
        try simp only [Act.put, List.setIfInBounds_toArray, List.set_cons_zero, List.set_cons_succ]
        refine wpAnyH_take (i := 10) (v := ?vv15) (by rfl) (by kernel_rfl) (by kernel_rfl) (by kernel_rfl) (by intro _ _ _ h; exact h) (Or.inl ⟨by kernel_rfl, ?hy15⟩) (by assumption) ?rest15
        case hy15 =>
          intro w' hSw
          have hSw : Mods (· = g) w2 w' := hSw
          clear hSw
          go_simp
          try with_reducible rfl
        change wpAnyH _ _ _ _ _ _ _ (Act.put _ (some 25) _) _
        try simp only [Act.put, List.setIfInBounds_toArray, List.set_cons_zero, List.set_cons_succ]
        refine wpAnyH_take (i := 11) (v := ?vv16) (by rfl) (by kernel_rfl) (by kernel_rfl) (by kernel_rfl) (by intro _ _ _ h; exact h) (Or.inl ⟨by kernel_rfl, ?hy16⟩) (by assumption) ?rest16
        case hy16 =>
          intro w' hSw
          have hSw : Mods (· = g) w2 w' := hSw
          clear hSw
          go_simp
          try with_reducible rfl
        change wpAnyH _ _ _ _ _ _ _ (Act.put _ (some 26) _) _
        try simp only [Act.put, List.setIfInBounds_toArray, List.set_cons_zero, List.set_cons_succ]
        refine wpAnyH_take (i := 12) (v := ?vv17) (by rfl) (by kernel_rfl) (by kernel_rfl) (by kernel_rfl) (by intro _ _ _ h; exact h) (Or.inl ⟨by kernel_rfl, ?hy17⟩) (by assumption) ?rest17
        case hy17 =>
          intro w' hSw
          have hSw : Mods (· = g) w2 w' := hSw
          clear hSw
          go_simp
          try with_reducible rfl
        change wpAnyH _ _ _ _ _ _ _ (Act.put _ (some 27) _) _
        try simp only [Act.put, List.setIfInBounds_toArray, List.set_cons_zero, List.set_cons_succ]
        refine wpAnyH_ready (rs := [13]) (by kernel_rfl) (by simp) ?_
        refine AllReadyH.cons (o := _) rfl (fun K hK => ?_) ?_
        · have h3 : World.cell? yA ⟨g, 3, none⟩ = some (.int .i64 m.ub) := HBd.out.cells.2.2.2.1
          have h4 : World.cell? yA ⟨g, 4, none⟩ = some (.int .i64 m.uc) := HBd.out.cells.2.2.2.2
          have z3 : World.frozen? yA ⟨g, 3, none⟩ = false := HBd.out.blk.frozen _
          have z4 : World.frozen? yA ⟨g, 4, none⟩ = false := HBd.out.blk.frozen _
          go_simp
          have hsu := HBd.out.setUse tv tc
          have hb := hHeld.trans hsu.2 (fun x h _ => h)
          have HEd := Lib.hid (HEd.out.mods hsu.2 hn0)
          have HBd := Lib.hid hsu.1
          clear h3 h4 z3 z4 hsu
          generalize World.setCell (World.setCell yA ⟨g, 3, none⟩ (.int .i64 tv)) ⟨g, 4, none⟩ (.int .i64 tc) = yB at *
          refine hK.out _ _ hb (fun _ => ?_)
          clear hK K hHeld
          have hHeld : Mods (· = g) w2 yB := hb
          clear hb
          try simp only [Act.put, List.setIfInBounds_toArray, List.set_cons_zero, List.set_cons_succ]
          refine wpAnyH_done (by kernel_rfl) ?_ _
          refine NoPanic.normal ?_
          go_wp2_with fail
          go_meet
          exact Lib.hid ⟨HBd.out, HEd.out, hHeld⟩
        exact AllReadyH.nil
      exact AllReadyH.nil
    exact AllReadyH.nil
  case rest =>
  obtain ⟨wz, rfl⟩ : ∃ wz : World, wz = wc := ⟨_, rfl⟩
  have HBX := Lib.hid hcut.out.1
  have HE := Lib.hid hcut.out.2.1
  have HM := Lib.hid hcut.out.2.2
  clear hcut HBd HEd HQ hx4
  have hx6 : wz.cell? ⟨b, 6, none⟩ = some (.bool E.gone) := by rw [HE.out.cell]; rfl
  have hz6 : wz.frozen? ⟨b, 6, none⟩ = false := HE.out.frozen _
  have hx2 : wz.cell? ⟨b, 2, none⟩ = some (.int .i64 E.flags) := by rw [HE.out.cell]; rfl
  have hz2 : wz.frozen? ⟨b, 2, none⟩ = false := HE.out.frozen _
  go_upto_region 6 with fail
  generalize hW : World.setCell (World.setCell wz _ _) _ _ = w3
  have HE3 := Lib.hid (show Blk w3 b 85 (entA { E with gone := true, flags := 0 }) from by rw [← hW]; exact (HE.out.set_ 6 _).set_ 2 _)
  have hM23 : Mods (· = b) wz w3 := by rw [← hW]; exact ((Mods.refl (· = b) wz).setCell (p := ⟨b, 6, none⟩) (fun _ => rfl) _).setCell (p := ⟨b, 2, none⟩) (fun _ => rfl) _
  have HB3 : Hid (BoxAt w3 g b1 b2 n { m with ub := tv, uc := tc }) := Lib.hid (boxMods HBX.out hM23 (fun e => hn0 e.symm) (fun e => hn1 e.symm) (fun e => hn2 e.symm))
  have HMM : Hid (Mods (BFr g b1 b2) w w3) := Lib.hid (((Mods.of_keeps (S := BFr g b1 b2) HK2.out).trans HM.out (fun y hy _ => .inl hy)).trans hM23 (fun y hy hlt => by subst hy; omega))
  obtain ⟨c0, -⟩ := HB3.out.cells
  have HBd := Lib.hid (HB3.out.keeps (Keeps.refl w3).drew)
  have hgb : ¬ g = b1 := fun e => HB3.out.d1 e.symm
  clear hW hM23 hx2 hz2 hx6 hz6 HB3 HBX HE HM
  refine wp_region_noPanic ?_
  refine wp_region_held_drew (S := fun w' => Mods (· = b1) w3 w') (by kernel_rfl) ((Mods.refl (· = b1) w3).drew) (fun _ => ?_)
  have hHeld : Mods (· = b1) w3 (w3).drew := (Mods.refl (· = b1) w3).drew
  generalize World.drew w3 = xs at *
  refine wpAnyH_take (i := 0) (v := ?vv18) (by rfl) (by kernel_rfl) (by kernel_rfl) (by kernel_rfl) (by intro _ _ _ h; exact h) (Or.inl ⟨by kernel_rfl, ?hy18⟩) (by assumption) ?rest18
  case hy18 =>
    intro w' hSw
    have hSw : Mods (· = b1) w3 w' := hSw
    clear hSw
    go_simp
    try with_reducible rfl
  change wpAnyH _ _ _ _ _ _ _ (Act.put _ (some 30) _) _
  try simp only [Act.put, List.setIfInBounds_toArray, List.set_cons_zero, List.set_cons_succ]
  refine wpAnyH_take (i := 1) (v := ?vv19) (by rfl) (by kernel_rfl) (by kernel_rfl) (by kernel_rfl) (by intro _ _ _ h; exact h) (Or.inl ⟨by kernel_rfl, ?hy19⟩) (by assumption) ?rest19
  case hy19 =>
    intro w' hSw
    have hSw : Mods (· = b1) w3 w' := hSw
    clear hSw
    go_simp
    try with_reducible rfl
  change wpAnyH _ _ _ _ _ _ _ (Act.put _ (some 31) _) _
  try simp only [Act.put, List.setIfInBounds_toArray, List.set_cons_zero, List.set_cons_succ]
  refine wpAnyH_take (i := 2) (v := ?vv20) (by rfl) (by kernel_rfl) (by kernel_rfl) (by kernel_rfl) (by intro _ _ _ h; exact h) (Or.inl ⟨by kernel_rfl, ?hy20⟩) (by assumption) ?rest20
  case hy20 =>
    intro w' hSw
    have hSw : Mods (· = b1) w3 w' := hSw
    clear hSw
    go_simp
    try with_reducible rfl
  change wpAnyH _ _ _ _ _ _ _ (Act.put _ (some 32) _) _
  try simp only [Act.put, List.setIfInBounds_toArray, List.set_cons_zero, List.set_cons_succ]
  refine wpAnyH_take (i := 3) (v := ?vv21) (by rfl) (by kernel_rfl) (by kernel_rfl) (by kernel_rfl) (by intro _ _ _ h; exact h) (Or.inl ⟨by kernel_rfl, ?hy21⟩) (by assumption) ?rest21
  case hy21 =>
    intro w' hSw
    have hSw : Mods (· = b1) w3 w' := hSw
    have h0 := hSw.cell c0 hgb
    clear hSw
    go_simp
    try with_reducible rfl
  change wpAnyH _ _ _ _ _ _ _ (Act.put _ (some 33) _) _
  try simp only [Act.put, List.setIfInBounds_toArray, List.set_cons_zero, List.set_cons_succ]
  refine wpAnyH_take (i := 4) (v := ?vv22) (by rfl) (by kernel_rfl) (by kernel_rfl) (by kernel_rfl) (by intro _ _ _ h; exact h) (Or.inl ⟨by kernel_rfl, ?hy22⟩) (by assumption) ?rest22
  case hy22 =>
    intro w' hSw
    have hSw : Mods (· = b1) w3 w' := hSw
    clear hSw
    go_simp
    try with_reducible rfl
  change wpAnyH _ _ _ _ _ _ _ (Act.put _ (some 34) _) _
  try simp only [Act.put, List.setIfInBounds_toArray, List.set_cons_zero, List.set_cons_succ]
  refine wpAnyH_take (i := 5) (by rfl) (by kernel_rfl) (by kernel_rfl) (by kernel_rfl) (by intro _ _ _ h; exact h) (yieldsIf_ld (by kernel_rfl) entM (fun w' hS => HE3.out.mods hS hn1) _ rfl rfl) (by assumption) ?rest23
  change wpAnyH _ _ _ _ _ _ _ (Act.put _ (some 35) _) _
  try simp only [Act.put, List.setIfInBounds_toArray, List.set_cons_zero, List.set_cons_succ]
  refine wpAnyH_ready (rs := [6]) (by kernel_rfl) (by simp) ?_
  refine AllReadyH.cons (o := _) rfl (fun K hK => ?_) ?_
  · obtain ⟨yF, hrun, hbox, hM⟩ := HBd.out.put hn hx { E with gone := true, flags := 0 }
    have hrun : (Instr.mapUpdate 183 (.map (some b1)) (.int .i64 x) (.agg (entA { E with gone := true, flags := 0 }))).run Try.prog xs = .ok () yF := hrun
    go_simp
    have hb := hHeld.trans hM (fun x h _ => h)
    have HBd := Lib.hid hbox
    clear hrun hbox hM
    refine hK.out _ _ hb (fun _ => ?_)
    clear hK K hHeld
    have hHeld : Mods (· = b1) w3 yF := hb
    clear hb
    try simp only [Act.put, List.setIfInBounds_toArray, List.set_cons_zero, List.set_cons_succ]
    refine wpAnyH_done (by kernel_rfl) ?_ _
    refine NoPanic.normal ?_
    go_wp2_with fail
    go_ret
    exact ⟨(congrArg (fun r : Box × Bool => Ending.returned (Value.bool r.2)) HX.out).symm, by rw [HX.out]; unfold goneM; rw [← HTV.out.1, ← HTV.out.2]; exact HBd.out, HMM.out.trans hHeld (fun y hy _ => .inr (.inl hy))⟩
  exact AllReadyH.nil
end Mbx
end Go.Proofs.Ytohchhgheeolpaa
