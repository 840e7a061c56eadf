/- mbox.Get, live. -/
import Derived.Test.YtohchhgheeolpaaMboxSmall
namespace Go.Proofs.Ytohchhgheeolpaa
open Go.RowKit
namespace Mbx
open Rcd Go.Maps

set_option maxRecDepth 100000 in
set_option maxHeartbeats 1000000 in
theorem get_any (w : World) {g b1 b2 n : Nat} {m : Box} (h : BoxAt w g b1 b2 n m) (x : Int) (hx : (Lit.int .i64 x).wf = true) : Calls Try.prog 55 #[.pointer (some ⟨g, 0, none⟩), .int .i64 x] w fun e w' => e = .returned (.tuple #[.agg (entA ((m.ent x).getD zeroEnt)), .bool (m.ent x).isSome]) ∧ Keeps w w' := by
  have HB := Lib.hid h
  clear h
  generalize hE : (m.ent x).getD zeroEnt = E
  generalize hi : (m.ent x).isSome = is
  have HEI := Lib.hid (And.intro hE hi)
  clear hE hi
  go_enter Try.func55, Try.ntmps55
  go_upto_region 1 with fail
  generalize hW : World.alloc w _ = w1
  have HK := Lib.hid (show Keeps w w1 from by rw [← hW]; exact (Keeps.refl _).alloc _)
  have HZ := Lib.hid (show Blk w1 w.heap.size 85 entZ from by rw [← hW]; exact Blk.new _ _ _ rfl)
  clear hW
  obtain ⟨R, hR⟩ : ∃ R, R = w.heap.size := ⟨_, rfl⟩
  rw [← hR] at HZ ⊢
  have HR := Lib.hid hR
  clear hR
  have hl := (HB.out.keeps HK.out).look hx
  obtain ⟨c0, -⟩ := (HB.out.keeps HK.out).cells
  rw [HEI.out.1, HEI.out.2] at hl
  unfold entV at hl
  go_upto_region 2 with fail
  generalize hW : World.alloc w1 _ = w2
  have HK2 := Lib.hid (show Keeps w1 w2 from by rw [← hW]; exact (Keeps.refl _).alloc _)
  have HE := Lib.hid (show Blk w2 w1.heap.size 85 (entA E) from by rw [← hW]; exact Blk.new _ _ _ rfl)
  have HZ := Lib.hid (HZ.out.keeps HK2.out)
  clear hW hl c0
  go_wp2_with (first
    | refine wpList_ld rfl entM HE.out _ rfl rfl ?_
    | refine wpList_st (ds := entA E) rfl entM HZ.out rfl (entA_one _) _ _ rfl rfl rfl rfl ?_; intro w6 hB6 hM6)
  have HLd := Lib.hid (ld_run (P := Try.prog) entM hB6)
  have HX := Lib.hid (hM6.keeps (HK.out.trans HK2.out) (fun y hy => by have := HR.out; omega))
  clear hB6 hM6
  exact bodyPost_ret (v := .tuple #[.agg (entA E), .bool is]) (by simp [results, Try.results55, Sem.run_bind, Sem.run_pure, Result.andThen_ok, Act.put, asAddr, HLd.out]) rfl ⟨rfl, HX.out⟩

def liveB (m : Box) (x : Int) : Bool := (m.ent x).isSome && !((m.ent x).getD zeroEnt).gone
set_option maxRecDepth 100000 in
set_option maxHeartbeats 2000000 in
theorem live_any (w : World) {g b1 b2 n : Nat} {m : Box} (h : BoxAt w g b1 b2 n m) (x : Int) (hx : (Lit.int .i64 x).wf = true) : Calls Try.prog 188 #[.pointer (some ⟨g, 0, none⟩), .int .i64 x] w fun e w' => e = .returned (.tuple #[.agg (entA ((m.ent x).getD zeroEnt)), .bool (liveB m x)]) ∧ Keeps w w' := by
  have HB := Lib.hid h
  clear h
  unfold liveB
  generalize hE : (m.ent x).getD zeroEnt = E
  generalize hi : (m.ent x).isSome = is
  have HEI := Lib.hid (And.intro hE hi)
  clear hE hi
  go_enter Try.func188, Try.ntmps188
  go_upto_region 1 with fail
  generalize hW : World.alloc w _ = w1
  have HK := Lib.hid (show Keeps w w1 from by rw [← hW]; exact (Keeps.refl _).alloc _)
  have HZ := Lib.hid (show Blk w1 w.heap.size 85 entZ from by rw [← hW]; exact Blk.new _ _ _ rfl)
  clear hW
  obtain ⟨R, hR⟩ : ∃ R, R = w.heap.size := ⟨_, rfl⟩
  rw [← hR] at HZ ⊢
  have HR := Lib.hid hR
  clear hR
  have hl := (HB.out.keeps HK.out).look hx
  obtain ⟨c0, -⟩ := (HB.out.keeps HK.out).cells
  rw [HEI.out.1, HEI.out.2] at hl
  unfold entV at hl
  go_upto_region 2 with fail
  generalize hW : World.alloc w1 _ = w2
  have HK2 := Lib.hid (show Keeps w1 w2 from by rw [← hW]; exact (Keeps.refl _).alloc _)
  have HE := Lib.hid (show Blk w2 w1.heap.size 85 (entA E) from by rw [← hW]; exact Blk.new _ _ _ rfl)
  have HRl := Lib.hid HZ.out.lt
  have HZ := Lib.hid ((HZ.out.keeps HK2.out).drew)
  have hne : ¬ w1.heap.size = R := by have := HRl.out; omega
  have hKR : w.heap.size ≤ R := by rw [HR.out]; exact Nat.le_refl _
  have hg : w2.cell? ⟨w1.heap.size, 6, none⟩ = some (.bool E.gone) := by rw [HE.out.cell]; rfl
  clear hW hl c0
  generalize w1.heap.size = b at *
  have HKK := Lib.hid (HK.out.trans HK2.out)
  cases is with
  | false =>
    refine wp_region_noPanic ?_
    refine wp_region_held_drew (S := fun w' => Mods (· = R) w2 w') (by kernel_rfl) ((Mods.refl (· = R) w2).drew) (fun _ => ?_)
    have hHeld : Mods (· = R) w2 (w2).drew := (Mods.refl (· = R) w2).drew
    generalize World.drew w2 = xs at *
    refine wpAnyH_take (i := 0) (by rfl) (by kernel_rfl) (by kernel_rfl) (by kernel_rfl) (by intro _ _ _ h; exact h) (yieldsIf_ld (by kernel_rfl) entM (fun w' hS => HE.out.mods hS hne) _ rfl rfl) (by assumption) ?rest1
    change wpAnyH _ _ _ _ _ _ _ (Act.put _ (some 17) _) _
    try simp only [Act.put, List.setIfInBounds_toArray, List.set_cons_zero, List.set_cons_succ]
    refine wpAnyH_take (i := 1) (v := ?vv2) (by rfl) (by kernel_rfl) (by kernel_rfl) (by kernel_rfl) (by intro _ _ _ h; exact h) (Or.inl ⟨by kernel_rfl, ?hy2⟩) (by assumption) ?rest2
    case hy2 =>
      intro w' hSw
      have hSw : Mods (· = R) w2 w' := hSw
      clear hSw
      go_simp
      try with_reducible rfl
    change wpAnyH _ _ _ _ _ _ _ (Act.put _ (some 18) _) _
    try simp only [Act.put, List.setIfInBounds_toArray, List.set_cons_zero, List.set_cons_succ]
    refine wpAnyH_take (i := 2) (v := ?vv3) (by rfl) (by kernel_rfl) (by kernel_rfl) (by kernel_rfl) (by intro _ _ _ h; exact h) (Or.inl ⟨by kernel_rfl, ?hy3⟩) (by assumption) ?rest3
    case hy3 =>
      intro w' hSw
      have hSw : Mods (· = R) w2 w' := hSw
      clear hSw
      go_simp
      try with_reducible rfl
    change wpAnyH _ _ _ _ _ _ _ (Act.put _ (some 19) _) _
    try simp only [Act.put, List.setIfInBounds_toArray, List.set_cons_zero, List.set_cons_succ]
    refine wpAnyH_take (i := 3) (by rfl) (by kernel_rfl) (by kernel_rfl) (by kernel_rfl) (by intro _ _ _ h; exact h) (Or.inr ⟨by kernel_rfl, rfl⟩) (by assumption) ?rest4
    change wpAnyH _ _ _ _ _ _ _ (Act.put _ (some 20) _) _
    try simp only [Act.put, List.setIfInBounds_toArray, List.set_cons_zero, List.set_cons_succ]
    refine wpAnyH_take (i := 4) (by rfl) (by kernel_rfl) (by kernel_rfl) (by kernel_rfl) (by intro _ _ _ h; exact h) (Or.inr ⟨by kernel_rfl, rfl⟩) (by assumption) ?rest5
    change wpAnyH _ _ _ _ _ _ _ (Act.put _ (some 21) _) _
    try simp only [Act.put, List.setIfInBounds_toArray, List.set_cons_zero, List.set_cons_succ]
    refine wpAnyH_take (i := 5) (by rfl) (by kernel_rfl) (by kernel_rfl) (by kernel_rfl) (by intro _ _ _ h; exact h) (Or.inr ⟨by kernel_rfl, rfl⟩) (by assumption) ?rest6
    change wpAnyH _ _ _ _ _ _ _ (Act.put _ (some 22) _) _
    try simp only [Act.put, List.setIfInBounds_toArray, List.set_cons_zero, List.set_cons_succ]
    refine wpAnyH_take (i := 6) (v := ?vv7) (by rfl) (by kernel_rfl) (by kernel_rfl) (by kernel_rfl) (by intro _ _ _ h; exact h) (Or.inl ⟨by kernel_rfl, ?hy7⟩) (by assumption) ?rest7
    case hy7 =>
      intro w' hSw
      have hSw : Mods (· = R) w2 w' := hSw
      clear hSw
      go_simp
      try with_reducible rfl
    change wpAnyH _ _ _ _ _ _ _ (Act.put _ (some 23) _) _
    try simp only [Act.put, List.setIfInBounds_toArray, List.set_cons_zero, List.set_cons_succ]
    refine wpAnyH_ready (rs := [7]) (by kernel_rfl) (by simp) ?_
    refine AllReadyH.cons (o := _) rfl (fun K hK => ?_) ?_
    · refine step_st (ds := entA E) rfl entM HZ.out rfl (entA_one _) _ _ rfl rfl rfl rfl ?_
      intro yF hBF hMF
      have hb := hHeld.trans hMF (fun x h _ => h)
      have HLd := Lib.hid (ld_run (P := Try.prog) entM hBF)
      clear hBF hMF
      refine hK.out _ _ hb (fun _ => ?_)
      clear hK K hHeld
      have hHeld : Mods (· = R) w2 yF := hb
      clear hb
      try simp only [Act.put, List.setIfInBounds_toArray, List.set_cons_zero, List.set_cons_succ]
      refine wpAnyH_take (i := 8) (v := ?vv8) (by rfl) (by kernel_rfl) (by kernel_rfl) (by kernel_rfl) (by intro _ _ _ h; exact h) (Or.inl ⟨by kernel_rfl, ?hy8⟩) (by assumption) ?rest8
      case hy8 =>
        intro w' hSw
        have hSw : Mods (· = R) w2 w' := hSw
        clear hSw
        go_simp
        try with_reducible rfl
      change wpAnyH _ _ _ _ _ _ _ (Act.put _ (some 5) _) _
      try simp only [Act.put, List.setIfInBounds_toArray, List.set_cons_zero, List.set_cons_succ]
      refine wpAnyH_done (by kernel_rfl) ?_ _
      refine NoPanic.normal ?_
      go_wp2_with fail
      exact bodyPost_ret (v := .tuple #[.agg (entA E), .bool false]) (by simp [results, Try.results188, Sem.run_bind, Sem.run_pure, Result.andThen_ok, Act.put, asAddr, HLd.out]) rfl ⟨rfl, hHeld.keeps HKK.out (fun x hx => by omega)⟩
    exact AllReadyH.nil
  | true =>
    refine wp_region_noPanic ?_
    refine wp_region_held_drew (S := fun w' => Mods (· = R) w2 w') (by kernel_rfl) ((Mods.refl (· = R) w2).drew) (fun _ => ?_)
    have hHeld : Mods (· = R) w2 (w2).drew := (Mods.refl (· = R) w2).drew
    generalize World.drew w2 = xs at *
    refine wpAnyH_take (i := 0) (by rfl) (by kernel_rfl) (by kernel_rfl) (by kernel_rfl) (by intro _ _ _ h; exact h) (yieldsIf_ld (by kernel_rfl) entM (fun w' hS => HE.out.mods hS hne) _ rfl rfl) (by assumption) ?rest9
    change wpAnyH _ _ _ _ _ _ _ (Act.put _ (some 17) _) _
    try simp only [Act.put, List.setIfInBounds_toArray, List.set_cons_zero, List.set_cons_succ]
    refine wpAnyH_take (i := 1) (v := ?vv10) (by rfl) (by kernel_rfl) (by kernel_rfl) (by kernel_rfl) (by intro _ _ _ h; exact h) (Or.inl ⟨by kernel_rfl, ?hy10⟩) (by assumption) ?rest10
    case hy10 =>
      intro w' hSw
      have hSw : Mods (· = R) w2 w' := hSw
      clear hSw
      go_simp
      try with_reducible rfl
    change wpAnyH _ _ _ _ _ _ _ (Act.put _ (some 18) _) _
    try simp only [Act.put, List.setIfInBounds_toArray, List.set_cons_zero, List.set_cons_succ]
    refine wpAnyH_take (i := 2) (v := ?vv11) (by rfl) (by kernel_rfl) (by kernel_rfl) (by kernel_rfl) (by intro _ _ _ h; exact h) (Or.inl ⟨by kernel_rfl, ?hy11⟩) (by assumption) ?rest11
    case hy11 =>
      intro w' hSw
      have hSw : Mods (· = R) w2 w' := hSw
      clear hSw
      go_simp
      try with_reducible rfl
    change wpAnyH _ _ _ _ _ _ _ (Act.put _ (some 19) _) _
    try simp only [Act.put, List.setIfInBounds_toArray, List.set_cons_zero, List.set_cons_succ]
    refine wpAnyH_take (i := 3) (v := ?vv12) (by rfl) (by kernel_rfl) (by kernel_rfl) (by kernel_rfl) (by intro _ _ _ h; exact h) (Or.inl ⟨by kernel_rfl, ?hy12⟩) (by assumption) ?rest12
    case hy12 =>
      intro w' hSw
      have hSw : Mods (· = R) w2 w' := hSw
      clear hSw
      go_simp
      try with_reducible rfl
    change wpAnyH _ _ _ _ _ _ _ (Act.put _ (some 20) _) _
    try simp only [Act.put, List.setIfInBounds_toArray, List.set_cons_zero, List.set_cons_succ]
    refine wpAnyH_take (i := 4) (v := ?vv13) (by rfl) (by kernel_rfl) (by kernel_rfl) (by kernel_rfl) (by intro _ _ _ h; exact h) (Or.inl ⟨by kernel_rfl, ?hy13⟩) (by assumption) ?rest13
    case hy13 =>
      intro w' hSw
      have hSw : Mods (· = R) w2 w' := hSw
      have h0 := hSw.cell hg hne
      clear hSw
      go_simp
      try with_reducible rfl
    change wpAnyH _ _ _ _ _ _ _ (Act.put _ (some 21) _) _
    try simp only [Act.put, List.setIfInBounds_toArray, List.set_cons_zero, List.set_cons_succ]
    refine wpAnyH_take (i := 5) (v := ?vv14) (by rfl) (by kernel_rfl) (by kernel_rfl) (by kernel_rfl) (by intro _ _ _ h; exact h) (Or.inl ⟨by kernel_rfl, ?hy14⟩) (by assumption) ?rest14
    case hy14 =>
      intro w' hSw
      have hSw : Mods (· = R) w2 w' := hSw
      clear hSw
      go_simp
      try with_reducible rfl
    change wpAnyH _ _ _ _ _ _ _ (Act.put _ (some 22) _) _
    try simp only [Act.put, List.setIfInBounds_toArray, List.set_cons_zero, List.set_cons_succ]
    refine wpAnyH_take (i := 6) (v := ?vv15) (by rfl) (by kernel_rfl) (by kernel_rfl) (by kernel_rfl) (by intro _ _ _ h; exact h) (Or.inl ⟨by kernel_rfl, ?hy15⟩) (by assumption) ?rest15
    case hy15 =>
      intro w' hSw
      have hSw : Mods (· = R) w2 w' := hSw
      clear hSw
      go_simp
      try with_reducible rfl
    change wpAnyH _ _ _ _ _ _ _ (Act.put _ (some 23) _) _
    try simp only [Act.put, List.setIfInBounds_toArray, List.set_cons_zero, List.set_cons_succ]
    refine wpAnyH_ready (rs := [7]) (by kernel_rfl) (by simp) ?_
    refine AllReadyH.cons (o := _) rfl (fun K hK => ?_) ?_
    · refine step_st (ds := entA E) rfl entM HZ.out rfl (entA_one _) _ _ rfl rfl rfl rfl ?_
      intro yF hBF hMF
      have hb := hHeld.trans hMF (fun x h _ => h)
      have HLd := Lib.hid (ld_run (P := Try.prog) entM hBF)
      clear hBF hMF
      refine hK.out _ _ hb (fun _ => ?_)
      clear hK K hHeld
      have hHeld : Mods (· = R) w2 yF := hb
      clear hb
      try simp only [Act.put, List.setIfInBounds_toArray, List.set_cons_zero, List.set_cons_succ]
      refine wpAnyH_take (i := 8) (v := ?vv16) (by rfl) (by kernel_rfl) (by kernel_rfl) (by kernel_rfl) (by intro _ _ _ h; exact h) (Or.inl ⟨by kernel_rfl, ?hy16⟩) (by assumption) ?rest16
      case hy16 =>
        intro w' hSw
        have hSw : Mods (· = R) w2 w' := hSw
        clear hSw
        go_simp
        try with_reducible rfl
      change wpAnyH _ _ _ _ _ _ _ (Act.put _ (some 5) _) _
      try simp only [Act.put, List.setIfInBounds_toArray, List.set_cons_zero, List.set_cons_succ]
      refine wpAnyH_done (by kernel_rfl) ?_ _
      refine NoPanic.normal ?_
      go_wp2_with fail
      exact bodyPost_ret (v := .tuple #[.agg (entA E), .bool (true && !E.gone)]) (by simp [results, Try.results188, Sem.run_bind, Sem.run_pure, Result.andThen_ok, Act.put, asAddr, HLd.out]) rfl ⟨rfl, hHeld.keeps HKK.out (fun x hx => by omega)⟩
    exact AllReadyH.nil
end Mbx
end Go.Proofs.Ytohchhgheeolpaa
