/- Several texts in one: RfSync, RfNew0, RfTwo, SfClo, SfMake, SfDrop. -/
import Derived.Test.YtchjncnolmiejaaGreatK40
import Derived.Test.YtchjncnolmiejaaGreatK37
/- The document's disk: Pwrite, Sync. -/
namespace Go.Proofs.YtchjncnolmiejaaGreat
open Go.RowKit
namespace Rf
open Vd
section
variable {w : World} {M : Nat → Prop} {m : Nat} {d : RDsk} {k : Nat}
set_option maxRecDepth 100000 in
set_option maxHeartbeats 4000000 in
theorem rsync_r (h : RefAt w M m d k) (hk : k ≤ 90000) (x : Str) : Calls Tryz.prog 136 #[.pointer (some ⟨m, 0, none⟩), .string (bstr x)] w (RDid w M m (syncR d x) (k + 2)) := by
  have HB := Lib.hid (begin_r w h (by omega))
  have HX0 : Hid (syncR d x = if (beginR d).2 ≠ 0 then beginR d else match Vd.look d.now x with | none => ((beginR d).1, 7) | some i => (setR (beginR d).1 i ⟨(filAt (beginR d).1 i).now, (filAt (beginR d).1 i).now, []⟩, 0)) := Lib.hid (by
    unfold syncR
    split
    · rfl
    · cases Vd.look d.now x with
      | none => rfl
      | some i => simp only [beginR_filAt, setR, beginR_files])
  have HFI := Lib.hid (beginR_files d)
  clear h
  unfold RDid
  generalize beginR d = r at *
  obtain ⟨d1, er⟩ := r
  simp only at HB HX0 HFI
  go_enter Tryz.func136, Tryz.ntmps136
  go_wp2_with fail
  refine HB.out.mono ?_
  rintro e w1 ⟨rfl, h1, hm1⟩
  have H1 := Lib.hid h1
  have HM1 := Lib.hid hm1
  clear h1 hm1 HB
  by_cases he : er = 0
  · subst he
    have HX1 := Lib.hid (HX0.out.trans (if_neg (by simp)))
    have HF := Lib.hid (rfind_r H1.out x)
    have HFR : Hid (findR d1.now x = match Vd.look d1.now x with | none => -1 | some i => (i : Int)) := Lib.hid rfl
    cases hl : Vd.look d1.now x with
    | none =>
      have HX := Lib.hid (show syncR d x = (d1, 7) from by rw [HX1.out, ← HFI.out.2.1, hl])
      have hfr : findR d1.now x = -1 := by rw [HFR.out, hl]
      rw [hfr] at HF
      clear hfr hl HFR
      go_wp2_with fail
      refine HF.out.mono ?_
      rintro e w2 ⟨rfl, rfl⟩
      go_wp2_with fail
      go_ret
      rw [HX.out]
      exact ⟨rfl, (H1.out.wide (fun y hy => .inl hy)).more (by omega), HM1.out⟩
    | some i =>
      obtain ⟨fv, nv, sv, wv, fw, hi⟩ := H1.out
      obtain ⟨hif, hnm⟩ := hi.named hl
      have HX := Lib.hid (show syncR d x = (setR d1 i ⟨d1.files[i].now, d1.files[i].now, []⟩, 0) from by rw [HX1.out, ← HFI.out.2.1, hl]; show (setR d1 i ⟨(filAt d1 i).now, (filAt d1 i).now, []⟩, (0 : Int)) = _; rw [filAt_get hif])
      have hfr : findR d1.now x = (i : Int) := by rw [HFR.out, hl]
      rw [hfr] at HF
      obtain ⟨c0, -⟩ := hi.cells
      obtain ⟨bf, of, cf, hfv, hrg⟩ := hi.file hif
      subst hfv
      have HFNE := Lib.hid (show (Value.slice (some ⟨bf, of, none⟩) d1.files.length cf).ownBlock ≠ some m from fun e => Frm.ownsRow_ne hi.files hi.blk (by decide) e)
      have hf0 := hrg 0 _ rfl
      rw [Nat.add_zero] at hf0
      have hsz := bstr_size d1.files[i].now
      have hfl : d1.files.length ≤ 1000000 := by have := hi.fit.f; omega
      have hfb := (hi.fit.b _ (List.getElem_mem hif)).1
      have hil : (i : Int) < (d1.files.length : Int) := by omega
      have HFU := Lib.hid (set_fit (i := i) (f := ⟨d1.files[i].now, d1.files[i].now, []⟩) hi.fit (Nat.zero_le _) ⟨hfb, hfb⟩)
      clear hfr hl HFR hi hrg hnm
      generalize d1.files[i].now = y at *
      have HCS := Lib.hid (And.intro c0 hf0)
      clear c0 hf0
      go_wp2_with fail
      refine HF.out.mono ?_
      rintro e w2 ⟨rfl, rfl⟩
      go_upto_region 7 with fail
      have HNE := Lib.hid (show bf ≠ m from fun e => HFNE.out (by rw [e]; rfl))
      have HR1 := Lib.hid (H1.out.keeps (Keeps.refl w1).drew)
      have HMD := Lib.hid HM1.out.drew
      have HC0 := Lib.hid (keep1 (Keeps.refl w1).drew HCS.out.1)
      refine wp_region_noPanic ?_
      refine wp_region_held_drew (S := fun w' => Mods (· = m) w1 w') (by kernel_rfl) ((Mods.refl (· = m) w1).drew) (fun _ => ?_)
      have hHeld : Mods (· = m) w1 (w1).drew := (Mods.refl (· = m) w1).drew
      generalize World.drew w1 = xs at *
      refine wpAnyH_take (i := 0) (v := ?vv1) (by rfl) (by kernel_rfl) (by kernel_rfl) (by kernel_rfl) (by intro _ _ _ h; exact h) (Or.inl ⟨by kernel_rfl, ?hy1⟩) (by assumption) ?rest1
      case hy1 =>
        intro w' hSw
        have hSw : Mods (· = m) w1 w' := hSw
        clear hSw
        go_simp
        try with_reducible rfl
      change wpAnyH _ _ _ _ _ _ _ (Act.put _ (some 17) _) _
      try simp only [Act.put, List.setIfInBounds_toArray, List.set_cons_zero, List.set_cons_succ]
      refine wpAnyH_take (i := 1) (v := ?vv2) (by rfl) (by kernel_rfl) (by kernel_rfl) (by kernel_rfl) (by intro _ _ _ h; exact h) (Or.inl ⟨by kernel_rfl, ?hy2⟩) (by assumption) ?rest2
      case hy2 =>
        intro w' hSw
        have hSw : Mods (· = m) w1 w' := hSw
        clear hSw
        go_simp
        try with_reducible rfl
      change wpAnyH _ _ _ _ _ _ _ (Act.put _ (some 18) _) _
      try simp only [Act.put, List.setIfInBounds_toArray, List.set_cons_zero, List.set_cons_succ]
      refine wpAnyH_take (i := 2) (v := ?vv3) (by rfl) (by kernel_rfl) (by kernel_rfl) (by kernel_rfl) (by intro _ _ _ h; exact h) (Or.inl ⟨by kernel_rfl, ?hy3⟩) (by assumption) ?rest3
      case hy3 =>
        intro w' hSw
        have hSw : Mods (· = m) w1 w' := hSw
        clear hSw
        go_simp
        try with_reducible rfl
      change wpAnyH _ _ _ _ _ _ _ (Act.put _ (some 19) _) _
      try simp only [Act.put, List.setIfInBounds_toArray, List.set_cons_zero, List.set_cons_succ]
      refine wpAnyH_take (i := 3) (v := ?vv4) (by rfl) (by kernel_rfl) (by kernel_rfl) (by kernel_rfl) (by intro _ _ _ h; exact h) (Or.inl ⟨by kernel_rfl, ?hy4⟩) (by assumption) ?rest4
      case hy4 =>
        intro w' hSw
        have hSw : Mods (· = m) w1 w' := hSw
        clear hSw
        go_simp
        try with_reducible rfl
      change wpAnyH _ _ _ _ _ _ _ (Act.put _ (some 20) _) _
      try simp only [Act.put, List.setIfInBounds_toArray, List.set_cons_zero, List.set_cons_succ]
      refine wpAnyH_take (i := 4) (v := ?vv5) (by rfl) (by kernel_rfl) (by kernel_rfl) (by kernel_rfl) (by intro _ _ _ h; exact h) (Or.inl ⟨by kernel_rfl, ?hy5⟩) (by assumption) ?rest5
      case hy5 =>
        intro w' hSw
        have hSw : Mods (· = m) w1 w' := hSw
        clear hSw
        go_simp
        try with_reducible rfl
      change wpAnyH _ _ _ _ _ _ _ (Act.put _ (some 21) _) _
      try simp only [Act.put, List.setIfInBounds_toArray, List.set_cons_zero, List.set_cons_succ]
      refine wpAnyH_take (i := 6) (v := ?vv6) (by rfl) (by kernel_rfl) (by kernel_rfl) (by kernel_rfl) (by intro _ _ _ h; exact h) (Or.inl ⟨by kernel_rfl, ?hy6⟩) (by assumption) ?rest6
      case hy6 =>
        intro w' hSw
        have hSw : Mods (· = m) w1 w' := hSw
        clear hSw
        go_simp
        try with_reducible rfl
      change wpAnyH _ _ _ _ _ _ _ (Act.put _ (some 23) _) _
      try simp only [Act.put, List.setIfInBounds_toArray, List.set_cons_zero, List.set_cons_succ]
      refine wpAnyH_take (i := 10) (v := ?vv7) (by rfl) (by kernel_rfl) (by kernel_rfl) (by kernel_rfl) (by intro _ _ _ h; exact h) (Or.inl ⟨by kernel_rfl, ?hy7⟩) (by assumption) ?rest7
      case hy7 =>
        intro w' hSw
        have hSw : Mods (· = m) w1 w' := hSw
        clear hSw
        go_simp
        try with_reducible rfl
      change wpAnyH _ _ _ _ _ _ _ (Act.put _ (some 27) _) _
      try simp only [Act.put, List.setIfInBounds_toArray, List.set_cons_zero, List.set_cons_succ]
      refine wpAnyH_take (i := 11) (v := ?vv8) (by rfl) (by kernel_rfl) (by kernel_rfl) (by kernel_rfl) (by intro _ _ _ h; exact h) (Or.inl ⟨by kernel_rfl, ?hy8⟩) (by assumption) ?rest8
      case hy8 =>
        intro w' hSw
        have hSw : Mods (· = m) w1 w' := hSw
        clear hSw
        go_simp
        try with_reducible rfl
      change wpAnyH _ _ _ _ _ _ _ (Act.put _ (some 28) _) _
      try simp only [Act.put, List.setIfInBounds_toArray, List.set_cons_zero, List.set_cons_succ]
      refine wpAnyH_take (i := 12) (v := ?vv9) (by rfl) (by kernel_rfl) (by kernel_rfl) (by kernel_rfl) (by intro _ _ _ h; exact h) (Or.inl ⟨by kernel_rfl, ?hy9⟩) (by assumption) ?rest9
      case hy9 =>
        intro w' hSw
        have hSw : Mods (· = m) w1 w' := hSw
        clear hSw
        go_simp
        try with_reducible rfl
      change wpAnyH _ _ _ _ _ _ _ (Act.put _ (some 29) _) _
      try simp only [Act.put, List.setIfInBounds_toArray, List.set_cons_zero, List.set_cons_succ]
      refine wpAnyH_take (i := 14) (v := ?vv10) (by rfl) (by kernel_rfl) (by kernel_rfl) (by kernel_rfl) (by intro _ _ _ h; exact h) (Or.inl ⟨by kernel_rfl, ?hy10⟩) (by assumption) ?rest10
      case hy10 =>
        intro w' hSw
        have hSw : Mods (· = m) w1 w' := hSw
        clear hSw
        go_simp
        try with_reducible rfl
      change wpAnyH _ _ _ _ _ _ _ (Act.put _ (some 31) _) _
      try simp only [Act.put, List.setIfInBounds_toArray, List.set_cons_zero, List.set_cons_succ]
      refine wpAnyH_ready (rs := [5, 13]) (by kernel_rfl) (by simp) ?_
      refine AllReadyH.cons (o := _) rfl (fun K hK => ?_) ?_
      · have hx := HC0.out
        go_simp
        clear hx
        have hb := hHeld
        refine hK.out _ _ hb (fun _ => ?_)
        clear hK K hHeld
        have hHeld : Mods (· = m) w1 xs := hb
        clear hb
        try simp only [Act.put, List.setIfInBounds_toArray, List.set_cons_zero, List.set_cons_succ]
        refine wpAnyH_take (i := 7) (v := ?vv11) (by rfl) (by kernel_rfl) (by kernel_rfl) (by kernel_rfl) (by intro _ _ _ h; exact h) (Or.inl ⟨by kernel_rfl, ?hy11⟩) (by assumption) ?rest11
        case hy11 =>
          intro w' hSw
          have hSw : Mods (· = m) w1 w' := hSw
          clear hSw
          go_simp
          try with_reducible rfl
        change wpAnyH _ _ _ _ _ _ _ (Act.put _ (some 24) _) _
        try simp only [Act.put, List.setIfInBounds_toArray, List.set_cons_zero, List.set_cons_succ]
        refine wpAnyH_take (i := 8) (v := ?vv12) (by rfl) (by kernel_rfl) (by kernel_rfl) (by kernel_rfl) (by intro _ _ _ h; exact h) (Or.inl ⟨by kernel_rfl, ?hy12⟩) (by assumption) ?rest12
        case hy12 =>
          intro w' hSw
          have hSw : Mods (· = m) w1 w' := hSw
          clear hSw
          go_simp
          try with_reducible rfl
        change wpAnyH _ _ _ _ _ _ _ (Act.put _ (some 25) _) _
        try simp only [Act.put, List.setIfInBounds_toArray, List.set_cons_zero, List.set_cons_succ]
        refine wpAnyH_take (i := 9) (v := ?vv13) (by rfl) (by kernel_rfl) (by kernel_rfl) (by kernel_rfl) (by intro _ _ _ h; exact h) (Or.inl ⟨by kernel_rfl, ?hy13⟩) (by assumption) ?rest13
        case hy13 =>
          intro w' hSw
          have hSw : Mods (· = m) w1 w' := hSw
          have hx := hSw.cell HCS.out.2 (fun e => HNE.out e)
          clear hSw
          go_simp
          try with_reducible rfl
        change wpAnyH _ _ _ _ _ _ _ (Act.put _ (some 26) _) _
        try simp only [Act.put, List.setIfInBounds_toArray, List.set_cons_zero, List.set_cons_succ]
        refine wpAnyH_ready (rs := [13]) (by kernel_rfl) (by simp) ?_
        refine AllReadyH.cons (o := _) rfl (fun K hK => ?_) ?_
        · have hx := HC0.out
          go_simp
          clear hx
          have hb := hHeld
          refine hK.out _ _ hb (fun _ => ?_)
          clear hK K hHeld
          have hHeld : Mods (· = m) w1 xs := hb
          clear hb
          try simp only [Act.put, List.setIfInBounds_toArray, List.set_cons_zero, List.set_cons_succ]
          refine wpAnyH_take (i := 15) (v := ?vv14) (by rfl) (by kernel_rfl) (by kernel_rfl) (by kernel_rfl) (by intro _ _ _ h; exact h) (Or.inl ⟨by kernel_rfl, ?hy14⟩) (by assumption) ?rest14
          case hy14 =>
            intro w' hSw
            have hSw : Mods (· = m) w1 w' := hSw
            clear hSw
            go_simp
            try with_reducible rfl
          change wpAnyH _ _ _ _ _ _ _ (Act.put _ (some 32) _) _
          try simp only [Act.put, List.setIfInBounds_toArray, List.set_cons_zero, List.set_cons_succ]
          refine wpAnyH_take (i := 16) (v := ?vv15) (by rfl) (by kernel_rfl) (by kernel_rfl) (by kernel_rfl) (by intro _ _ _ h; exact h) (Or.inl ⟨by kernel_rfl, ?hy15⟩) (by assumption) ?rest15
          case hy15 =>
            intro w' hSw
            have hSw : Mods (· = m) w1 w' := hSw
            clear hSw
            go_simp
            try with_reducible rfl
          change wpAnyH _ _ _ _ _ _ _ (Act.put _ (some 33) _) _
          try simp only [Act.put, List.setIfInBounds_toArray, List.set_cons_zero, List.set_cons_succ]
          refine wpAnyH_take (i := 17) (v := ?vv16) (by rfl) (by kernel_rfl) (by kernel_rfl) (by kernel_rfl) (by intro _ _ _ h; exact h) (Or.inl ⟨by kernel_rfl, ?hy16⟩) (by assumption) ?rest16
          case hy16 =>
            intro w' hSw
            have hSw : Mods (· = m) w1 w' := hSw
            have hx := hSw.cell HCS.out.2 (fun e => HNE.out e)
            clear hSw
            go_simp
            try with_reducible rfl
          change wpAnyH _ _ _ _ _ _ _ (Act.put _ (some 34) _) _
          try simp only [Act.put, List.setIfInBounds_toArray, List.set_cons_zero, List.set_cons_succ]
          refine wpAnyH_take (i := 18) (v := ?vv17) (by rfl) (by kernel_rfl) (by kernel_rfl) (by kernel_rfl) (by intro _ _ _ h; exact h) (Or.inl ⟨by kernel_rfl, ?hy17⟩) (by assumption) ?rest17
          case hy17 =>
            intro w' hSw
            have hSw : Mods (· = m) w1 w' := hSw
            clear hSw
            go_simp
            try with_reducible rfl
          change wpAnyH _ _ _ _ _ _ _ (Act.put _ (some 35) _) _
          try simp only [Act.put, List.setIfInBounds_toArray, List.set_cons_zero, List.set_cons_succ]
          refine wpAnyH_ready (rs := [19]) (by kernel_rfl) (by simp) ?_
          refine AllReadyH.cons (o := _) rfl (fun K hK => ?_) ?_
          · go_simp
            have HWI := Lib.hid (with_r (HR1.out.more (Nat.le_succ _)) (by omega) hif ⟨y, y, []⟩ (.slice none 0 0) (World.ownsRow_nil _ _ _ 2) (fun y hy => by simp [Value.ownBlock] at hy) HFU.out)
            unfold filA at HWI
            refine HWI.out.mono ?_
            rintro e xF ⟨rfl, h6, hm6⟩
            have H6 := Lib.hid h6
            have hb := hHeld.trans hm6 (fun y hy _ => hy)
            clear h6 hm6 HWI
            go_wp2_with fail
            refine hK.out _ _ hb (fun _ => ?_)
            clear hK K hHeld
            have hHeld : Mods (· = m) w1 xF := hb
            clear hb
            try simp only [Act.put, List.setIfInBounds_toArray, List.set_cons_zero, List.set_cons_succ]
            refine wpAnyH_done (by kernel_rfl) ?_ _
            refine NoPanic.normal ?_
            go_wp2_with fail
            go_ret
            rw [HX.out]
            exact ⟨rfl, Mods.more_of HMD.out H6.out, HM1.out.trans hHeld (fun y hy _ => hy)⟩
          exact AllReadyH.nil
        exact AllReadyH.nil
      refine AllReadyH.cons (o := _) rfl (fun K hK => ?_) ?_
      · have hx := HC0.out
        go_simp
        clear hx
        have hb := hHeld
        refine hK.out _ _ hb (fun _ => ?_)
        clear hK K hHeld
        have hHeld : Mods (· = m) w1 xs := hb
        clear hb
        try simp only [Act.put, List.setIfInBounds_toArray, List.set_cons_zero, List.set_cons_succ]
        refine wpAnyH_take (i := 15) (v := ?vv18) (by rfl) (by kernel_rfl) (by kernel_rfl) (by kernel_rfl) (by intro _ _ _ h; exact h) (Or.inl ⟨by kernel_rfl, ?hy18⟩) (by assumption) ?rest18
        case hy18 =>
          intro w' hSw
          have hSw : Mods (· = m) w1 w' := hSw
          clear hSw
          go_simp
          try with_reducible rfl
        change wpAnyH _ _ _ _ _ _ _ (Act.put _ (some 32) _) _
        try simp only [Act.put, List.setIfInBounds_toArray, List.set_cons_zero, List.set_cons_succ]
        refine wpAnyH_take (i := 16) (v := ?vv19) (by rfl) (by kernel_rfl) (by kernel_rfl) (by kernel_rfl) (by intro _ _ _ h; exact h) (Or.inl ⟨by kernel_rfl, ?hy19⟩) (by assumption) ?rest19
        case hy19 =>
          intro w' hSw
          have hSw : Mods (· = m) w1 w' := hSw
          clear hSw
          go_simp
          try with_reducible rfl
        change wpAnyH _ _ _ _ _ _ _ (Act.put _ (some 33) _) _
        try simp only [Act.put, List.setIfInBounds_toArray, List.set_cons_zero, List.set_cons_succ]
        refine wpAnyH_take (i := 17) (v := ?vv20) (by rfl) (by kernel_rfl) (by kernel_rfl) (by kernel_rfl) (by intro _ _ _ h; exact h) (Or.inl ⟨by kernel_rfl, ?hy20⟩) (by assumption) ?rest20
        case hy20 =>
          intro w' hSw
          have hSw : Mods (· = m) w1 w' := hSw
          have hx := hSw.cell HCS.out.2 (fun e => HNE.out e)
          clear hSw
          go_simp
          try with_reducible rfl
        change wpAnyH _ _ _ _ _ _ _ (Act.put _ (some 34) _) _
        try simp only [Act.put, List.setIfInBounds_toArray, List.set_cons_zero, List.set_cons_succ]
        refine wpAnyH_ready (rs := [5]) (by kernel_rfl) (by simp) ?_
        refine AllReadyH.cons (o := _) rfl (fun K hK => ?_) ?_
        · have hx := HC0.out
          go_simp
          clear hx
          have hb := hHeld
          refine hK.out _ _ hb (fun _ => ?_)
          clear hK K hHeld
          have hHeld : Mods (· = m) w1 xs := hb
          clear hb
          try simp only [Act.put, List.setIfInBounds_toArray, List.set_cons_zero, List.set_cons_succ]
          refine wpAnyH_take (i := 7) (v := ?vv21) (by rfl) (by kernel_rfl) (by kernel_rfl) (by kernel_rfl) (by intro _ _ _ h; exact h) (Or.inl ⟨by kernel_rfl, ?hy21⟩) (by assumption) ?rest21
          case hy21 =>
            intro w' hSw
            have hSw : Mods (· = m) w1 w' := hSw
            clear hSw
            go_simp
            try with_reducible rfl
          change wpAnyH _ _ _ _ _ _ _ (Act.put _ (some 24) _) _
          try simp only [Act.put, List.setIfInBounds_toArray, List.set_cons_zero, List.set_cons_succ]
          refine wpAnyH_take (i := 8) (v := ?vv22) (by rfl) (by kernel_rfl) (by kernel_rfl) (by kernel_rfl) (by intro _ _ _ h; exact h) (Or.inl ⟨by kernel_rfl, ?hy22⟩) (by assumption) ?rest22
          case hy22 =>
            intro w' hSw
            have hSw : Mods (· = m) w1 w' := hSw
            clear hSw
            go_simp
            try with_reducible rfl
          change wpAnyH _ _ _ _ _ _ _ (Act.put _ (some 25) _) _
          try simp only [Act.put, List.setIfInBounds_toArray, List.set_cons_zero, List.set_cons_succ]
          refine wpAnyH_take (i := 9) (v := ?vv23) (by rfl) (by kernel_rfl) (by kernel_rfl) (by kernel_rfl) (by intro _ _ _ h; exact h) (Or.inl ⟨by kernel_rfl, ?hy23⟩) (by assumption) ?rest23
          case hy23 =>
            intro w' hSw
            have hSw : Mods (· = m) w1 w' := hSw
            have hx := hSw.cell HCS.out.2 (fun e => HNE.out e)
            clear hSw
            go_simp
            try with_reducible rfl
          change wpAnyH _ _ _ _ _ _ _ (Act.put _ (some 26) _) _
          try simp only [Act.put, List.setIfInBounds_toArray, List.set_cons_zero, List.set_cons_succ]
          refine wpAnyH_take (i := 18) (v := ?vv24) (by rfl) (by kernel_rfl) (by kernel_rfl) (by kernel_rfl) (by intro _ _ _ h; exact h) (Or.inl ⟨by kernel_rfl, ?hy24⟩) (by assumption) ?rest24
          case hy24 =>
            intro w' hSw
            have hSw : Mods (· = m) w1 w' := hSw
            clear hSw
            go_simp
            try with_reducible rfl
          change wpAnyH _ _ _ _ _ _ _ (Act.put _ (some 35) _) _
          try simp only [Act.put, List.setIfInBounds_toArray, List.set_cons_zero, List.set_cons_succ]
          refine wpAnyH_ready (rs := [19]) (by kernel_rfl) (by simp) ?_
          refine AllReadyH.cons (o := _) rfl (fun K hK => ?_) ?_
          · go_simp
            have HWI := Lib.hid (with_r (HR1.out.more (Nat.le_succ _)) (by omega) hif ⟨y, y, []⟩ (.slice none 0 0) (World.ownsRow_nil _ _ _ 2) (fun y hy => by simp [Value.ownBlock] at hy) HFU.out)
            unfold filA at HWI
            refine HWI.out.mono ?_
            rintro e xF ⟨rfl, h6, hm6⟩
            have H6 := Lib.hid h6
            have hb := hHeld.trans hm6 (fun y hy _ => hy)
            clear h6 hm6 HWI
            go_wp2_with fail
            refine hK.out _ _ hb (fun _ => ?_)
            clear hK K hHeld
            have hHeld : Mods (· = m) w1 xF := hb
            clear hb
            try simp only [Act.put, List.setIfInBounds_toArray, List.set_cons_zero, List.set_cons_succ]
            refine wpAnyH_done (by kernel_rfl) ?_ _
            refine NoPanic.normal ?_
            go_wp2_with fail
            go_ret
            rw [HX.out]
            exact ⟨rfl, Mods.more_of HMD.out H6.out, HM1.out.trans hHeld (fun y hy _ => hy)⟩
          exact AllReadyH.nil
        exact AllReadyH.nil
      exact AllReadyH.nil
  · have HX := Lib.hid (HX0.out.trans (if_pos he))
    have he' : (er != 0) = true := by simp [he]
    clear he
    go_wp2_with fail
    go_ret
    rw [HX.out]
    exact ⟨rfl, (H1.out.wide (fun y hy => .inl hy)).more (by omega), HM1.out⟩
end
end Rf
end Go.Proofs.YtchjncnolmiejaaGreat

/- The document's disk: New of no files. -/
namespace Go.Proofs.YtchjncnolmiejaaGreat
open Go.RowKit
namespace Rf
open Vd
def rd0 (cap : Int) : RDsk := ⟨[], [], [], [], cap, false, 0, -1, -1, 0⟩
theorem rd0_fit {cap : Int} (h1 : 1 ≤ cap) (h2 : cap ≤ 4194304) : RFit (rd0 cap) 0 :=
  ⟨Nat.le_refl _, Nat.le_refl _, Nat.le_refl _, Nat.le_refl _, fun x hx => absurd hx (List.not_mem_nil), fun x hx => absurd hx (List.not_mem_nil), by show (0 : Int) ≤ 0; decide, by show (0 : Int) ≤ ((0 : Nat) : Int); decide, by show -1 ≤ (-1 : Int) ∧ (-1 : Int) ≤ 9223372036854775807; decide, by show -1 ≤ (-1 : Int) ∧ (-1 : Int) ≤ 9223372036854775807; decide, List.Pairwise.nil, List.Pairwise.nil, fun p hp => absurd hp (List.not_mem_nil), ⟨h1, h2⟩⟩
def newR0 (cap : Int) : Option RDsk := if cap < 1 ∨ 4194304 < cap then none else some (rd0 cap)
def NewR (W : World) (r : Option RDsk) (e : Ending) (w' : World) : Prop := Keeps W w' ∧ match r with
  | none => e = .returned (.pointer none)
  | some d => ∃ m, e = .returned (.pointer (some ⟨m, 0, none⟩)) ∧ RefAt w' (fun y => W.heap.size ≤ y ∧ y < w'.heap.size) m d 0
set_option maxRecDepth 100000 in
set_option maxHeartbeats 4000000 in
theorem rnew0_r (w : World) (cap : Int) : Calls Tryz.prog 8 #[.slice none 0 0, .int .i64 cap] w (NewR w (newR0 cap)) := by
  by_cases h1 : cap < 1
  · rw [show newR0 cap = none from if_pos (.inl h1)]
    unfold NewR
    go_enter Tryz.func8, Tryz.ntmps8
    go_wp2_with fail
    go_ret
    exact ⟨Keeps.refl _, rfl⟩
  by_cases h2 : 4194304 < cap
  · rw [show newR0 cap = none from if_pos (.inr h2)]
    unfold NewR
    go_enter Tryz.func8, Tryz.ntmps8
    go_wp2_with fail
    go_ret
    exact ⟨Keeps.refl _, rfl⟩
  rw [show newR0 cap = some (rd0 cap) from if_neg (by omega)]
  unfold NewR
  have HFT := Lib.hid (rd0_fit (cap := cap) (by omega) (by omega))
  go_enter Tryz.func8, Tryz.ntmps8
  go_upto_region 4 with fail
  generalize hW : World.alloc w _ = w1
  have HK1 := Lib.hid (show Keeps w w1 from by rw [← hW]; exact (Keeps.refl _).alloc _)
  have HB1 := Lib.hid (show Blk w1 w.heap.size 59 (rdA (rd0 cap) (.slice none 0 0) (.slice none 0 0) (.slice none 0 0) (.slice none 0 0)) from by rw [← hW]; exact Blk.new _ _ _ rfl)
  clear hW
  have hlt := HB1.out.lt
  obtain ⟨q, hq⟩ : ∃ q, q = w.heap.size := ⟨_, rfl⟩
  rw [← hq] at HB1 hlt ⊢
  have HQ := Lib.hid hq
  clear hq
  go_wp2_with fail
  go_loopw [7] (fun ix wr => ix = .int .i64 0 ∧ wr = w1) (fun _ _ => 0)
  case atStart => exact ⟨rfl, rfl⟩
  case round =>
    obtain ⟨rfl, rfl⟩ := hrel
    have c1 : wr.cell? ⟨q, 1, none⟩ = some (.slice none 0 0) := by rw [HB1.out.cell]; rfl
    have c2 : wr.cell? ⟨q, 2, none⟩ = some (.slice none 0 0) := by rw [HB1.out.cell]; rfl
    have z2 : wr.frozen? ⟨q, 2, none⟩ = false := HB1.out.frozen _
    go_wp2_with fail
    go_ret
    have hK : Keeps w (wr.setCell ⟨q, 2, none⟩ (.slice none 0 0)) := HK1.out.setCell (by have := HQ.out; show w.heap.size ≤ q; omega) _
    refine ⟨hK, q, rfl, ⟨.slice none 0 0, .slice none 0 0, .slice none 0 0, .slice none 0 0, [], ?_⟩⟩
    exact
      { blk := HB1.out.set_ 2 _
        files := World.ownsRow_nil _ _ _ 3
        len := rfl
        waits := fun i h => absurd h (Nat.not_lt_zero _)
        now := World.ownsRow_nil _ _ _ 2
        sure := World.ownsRow_nil _ _ _ 2
        turns := World.ownsRow_nil _ _ _ 3
        sm := ⟨by have := HQ.out; omega, (HB1.out.set_ 2 (.slice none 0 0)).lt⟩
        sf := fun y hy => by simp [Value.ownBlock] at hy
        sn := fun y hy => by simp [Value.ownBlock] at hy
        ss := fun y hy => by simp [Value.ownBlock] at hy
        st := fun y hy => by simp [Value.ownBlock] at hy
        sw := fun v hv => absurd hv (List.not_mem_nil)
        fit := HFT.out }
end Rf
end Go.Proofs.YtchjncnolmiejaaGreat

/- The disk and the document's disk side by side, behind a world of the law's; blocks L that are neither's. -/
namespace Go.Proofs.YtchjncnolmiejaaGreat
open Go.RowKit
namespace Rf
open Vd
open Go.Maps
structure Two (L : List Nat) (W w : World) (g : Nat) (d : Dsk) (m : Nat) (r : RDsk) (k : Nat) (S M : Nat → Prop) : Prop where
  dsk : DiskAt w S g d
  ref : RefAt w M m r k
  ap : ∀ y, S y → ¬ M y
  ls : ∀ y, S y → W.heap.size ≤ y ∧ y < w.heap.size ∧ y ∉ L
  lm : ∀ y, M y → W.heap.size ≤ y ∧ y < w.heap.size ∧ y ∉ L
  ll : ∀ y ∈ L, y < w.heap.size
  keep : Keeps W w
  few : Few d k
def TwoAt (L : List Nat) (W w : World) (g : Nat) (d : Dsk) (m : Nat) (r : RDsk) (k : Nat) : Prop := ∃ S M, Two L W w g d m r k S M
section
variable {L : List Nat} {W w wb w' : World} {g m : Nat} {d d' : Dsk} {r r' : RDsk} {k k' : Nat} {S M : Nat → Prop}
theorem Two.more (h : Two L W w g d m r k S M) (hk : k ≤ k') : Two L W w g d m r k' S M := { h with ref := h.ref.more hk, few := h.few.mono hk }
theorem Two.keeps (h : Two L W w g d m r k S M) (hk : Keeps w w') : Two L W w' g d m r k S M :=
  { dsk := h.dsk.keeps hk, ref := h.ref.keeps hk, ap := h.ap, ls := fun y hy => ⟨(h.ls y hy).1, Nat.lt_of_lt_of_le (h.ls y hy).2.1 hk.size, (h.ls y hy).2.2⟩, lm := fun y hy => ⟨(h.lm y hy).1, Nat.lt_of_lt_of_le (h.lm y hy).2.1 hk.size, (h.lm y hy).2.2⟩, ll := fun y hy => Nat.lt_of_lt_of_le (h.ll y hy) hk.size, keep := h.keep.trans hk, few := h.few }
theorem TwoAt.keeps (h : TwoAt L W w g d m r k) (hk : Keeps w w') : TwoAt L W w' g d m r k := let ⟨_, _, h⟩ := h; ⟨_, _, h.keeps hk⟩
theorem TwoAt.more (h : TwoAt L W w g d m r k) (hk : k ≤ k') : TwoAt L W w g d m r k' := let ⟨_, _, h⟩ := h; ⟨_, _, h.more hk⟩
theorem TwoAt.kp (h : TwoAt L W w g d m r k) : Keeps W w := let ⟨_, _, h⟩ := h; h.keep
theorem TwoAt.fw (h : TwoAt L W w g d m r k) : Few d k := let ⟨_, _, h⟩ := h; h.few
/-- a block that was made since is set aside -/
theorem TwoAt.aside (h : TwoAt L W w g d m r k) (hk : Keeps w w') {b : Nat} (hb : w.heap.size ≤ b) (hb' : b < w'.heap.size) : TwoAt (b :: L) W w' g d m r k := by
  obtain ⟨S, M, h⟩ := h
  have h2 := h.keeps hk
  refine ⟨S, M, { h2 with ls := fun y hy => ⟨(h2.ls y hy).1, (h2.ls y hy).2.1, ?_⟩, lm := fun y hy => ⟨(h2.lm y hy).1, (h2.lm y hy).2.1, ?_⟩, ll := fun y hy => ?_ }⟩
  · have := (h.ls y hy).2.1
    intro hh
    rcases List.mem_cons.1 hh with e | e
    · omega
    · exact (h.ls y hy).2.2 e
  · have := (h.lm y hy).2.1
    intro hh
    rcases List.mem_cons.1 hh with e | e
    · omega
    · exact (h.lm y hy).2.2 e
  · rcases List.mem_cons.1 hy with rfl | e
    · exact hb'
    · exact h2.ll y e
theorem TwoAt.drop {L' : List Nat} (h : TwoAt L W w g d m r k) (hl : ∀ y ∈ L', y ∈ L) : TwoAt L' W w g d m r k := by
  obtain ⟨S, M, h⟩ := h
  exact ⟨S, M, { h with ls := fun y hy => ⟨(h.ls y hy).1, (h.ls y hy).2.1, fun hh => (h.ls y hy).2.2 (hl y hh)⟩, lm := fun y hy => ⟨(h.lm y hy).1, (h.lm y hy).2.1, fun hh => (h.lm y hy).2.2 (hl y hh)⟩, ll := fun y hy => h.ll y (hl y hy) }⟩
/-- what a call leaves: the blocks set aside, and the law's, as they were -/
def TwoDid (L : List Nat) (W w : World) (g : Nat) (d : Dsk) (m : Nat) (r : RDsk) (k : Nat) (v : Value) (e : Ending) (w' : World) : Prop := e = .returned v ∧ TwoAt L W w' g d m r k ∧ Mods (fun y => W.heap.size ≤ y ∧ y ∉ L) w w'
/-- the disk alone was changed -/
theorem Two.disk (h : Two L W w g d m r k S M) (hd : DiskAt w' (More S w w') g d') (hm : Mods (More S w w') w w') (hf : Few d' k') (hk : k ≤ k') : TwoAt L W w' g d' m r k' ∧ Mods (fun y => W.heap.size ≤ y ∧ y ∉ L) w w' := by
  have hs := hm.size
  have hk0 := h.keep.size
  refine ⟨⟨More S w w', M, ?_⟩, ?_⟩
  · exact
    { dsk := hd
      ref := (h.ref.apart hm (fun y hy hh => by
        rcases hh with hh | hh
        · exact h.ap y hh hy
        · have := (h.lm y hy).2; omega)).more hk
      ap := fun y hy hh => by
        rcases hy with hy | hy
        · exact h.ap y hy hh
        · have := (h.lm y hh).2; omega
      ls := fun y hy => by
        rcases hy with hy | hy
        · have := h.ls y hy; exact ⟨this.1, by omega, this.2.2⟩
        · exact ⟨by omega, by omega, fun hh => by have := h.ll y hh; omega⟩
      lm := fun y hy => by have := h.lm y hy; exact ⟨this.1, by omega, this.2.2⟩
      ll := fun y hy => Nat.lt_of_lt_of_le (h.ll y hy) hs
      keep := hm.keeps h.keep (fun y hy => by
        rcases hy with hy | hy
        · exact (h.ls y hy).1
        · omega)
      few := hf }
  · refine ⟨hm.os, hm.tape, hm.output, hm.size, fun y hy hn => hm.block y hy (fun hh => hn ?_)⟩
    rcases hh with hh | hh
    · exact ⟨(h.ls y hh).1, (h.ls y hh).2.2⟩
    · omega
theorem Two.did (h : Two L W w g d m r k S M) {x : Dsk × Int} {e : Ending} (hd : DskDid w (More S w w') g x e w') (hf : Few x.1 k') (hk : k ≤ k') : TwoDid L W w g x.1 m r k' (.int .i64 x.2) e w' :=
  ⟨hd.1, h.disk hd.2.1 hd.2.2 hf hk⟩
theorem Two.did0 (h : Two L W w g d m r k S M) {x : Dsk × Int} {e : Ending} (hd : DskDid w S g x e w') (hf : Few x.1 k') (hk : k ≤ k') : TwoDid L W w g x.1 m r k' (.int .i64 x.2) e w' :=
  ⟨hd.1, h.disk (hd.2.1.wide (fun y hy => .inl hy)) (hd.2.2.mono (fun y hy => .inl hy)) hf hk⟩
/-- the document's disk alone was changed -/
theorem Two.refd (h : Two L W w g d m r k S M) (hr : RefAt w' (More M w w') m r' k') (hm : Mods (· = m) w w') (hk : k ≤ k') : TwoAt L W w' g d m r' k' ∧ Mods (fun y => W.heap.size ≤ y ∧ y ∉ L) w w' := by
  have hM : M m := by obtain ⟨_, _, _, _, _, hh⟩ := h.ref; exact hh.sm
  have hs := hm.size
  have hk0 := h.keep.size
  refine ⟨⟨S, More M w w', ?_⟩, hm.mono (fun y hy => by subst hy; exact ⟨(h.lm _ hM).1, (h.lm _ hM).2.2⟩)⟩
  exact
    { dsk := h.dsk.apart hm (fun y hy e => by subst e; exact h.ap _ hy hM)
      ref := hr
      ap := fun y hy hh => by
        rcases hh with hh | hh
        · exact h.ap y hy hh
        · have := (h.ls y hy).2; omega
      ls := fun y hy => by have := h.ls y hy; exact ⟨this.1, by omega, this.2.2⟩
      lm := fun y hy => by
        rcases hy with hy | hy
        · have := h.lm y hy; exact ⟨this.1, by omega, this.2.2⟩
        · exact ⟨by omega, by omega, fun hh => by have := h.ll y hh; omega⟩
      ll := fun y hy => Nat.lt_of_lt_of_le (h.ll y hy) hs
      keep := hm.keeps h.keep (fun y hy => by subst hy; exact (h.lm _ hM).1)
      few := h.few.mono hk }
theorem Two.rdid (h : Two L W w g d m r k S M) {x : RDsk × Int} {e : Ending} (hd : RDid w M m x k' e w') (hk : k ≤ k') (hk2 : k' ≤ k + 3) : TwoDid L W w g d m x.1 (k + 3) (.int .i64 x.2) e w' :=
  ⟨hd.1, h.refd (hd.2.1.more hk2) hd.2.2 (by omega)⟩
theorem Few.cnt {d : Dsk} {k : Nat} (h : Few d k) (hk : k ≤ 90000) : -1 ≤ d.count ∧ d.count ≤ 9000000000000000000 := by
  have h0 := h.c0
  have h1 := h.c1
  omega
/-- a row in a block set aside, or of the law's, stays -/
theorem TwoAt.row (h : TwoAt L W w g d m r k) {T : Nat → Prop} (hm : Mods T w w') (hT : ∀ y, T y → W.heap.size ≤ y ∧ y ∉ L) {b n c : Nat} {l : List Value} (hb : b ∈ L) (hr : Row w (.slice (some ⟨b, 0, none⟩) n c) l) : Row w' (.slice (some ⟨b, 0, none⟩) n c) l := row_modsB hr hm (fun hh => (hT _ hh).2 hb)
theorem Two.mine (h : Two L W w g d m r k S M) : ∀ y, S y → W.heap.size ≤ y ∧ y ∉ L := fun y hy => ⟨(h.ls y hy).1, (h.ls y hy).2.2⟩
theorem create_two (h : TwoAt L W w g d m r k) (hk : k ≤ 90000) (x : Str) (hx : x.length ≤ 9000000000000000000) : Calls Tryz.prog 72 #[.pointer (some ⟨g, 0, none⟩), .string (bstr x)] w (TwoDid L W w g (createD d x).1 m r (k + 1) (.int .i64 (createD d x).2)) := by
  obtain ⟨S, M, h⟩ := h
  exact (create_any w h.dsk (Few.cnt h.few hk) x hx (by have := h.few.m; omega) (by have := h.few.n; omega)).mono (fun e w' hd => h.did hd (few_create h.few x) (by omega))
theorem syncDir_two (h : TwoAt L W w g d m r k) (hk : k ≤ 90000) : Calls Tryz.prog 73 #[.pointer (some ⟨g, 0, none⟩)] w (TwoDid L W w g (syncDirD d).1 m r (k + 1) (.int .i64 (syncDirD d).2)) := by
  obtain ⟨S, M, h⟩ := h
  exact (syncDir_any w h.dsk (Few.cnt h.few hk) (by have := h.few.n; omega)).mono (fun e w' hd => h.did hd (few_syncDir h.few) (by omega))
theorem crash_two (h : TwoAt L W w g d m r k) (n : Int) : Calls Tryz.prog 18 #[.pointer (some ⟨g, 0, none⟩), .int .i64 n] w (TwoDid L W w g { d with crash := setT n 11 } m r k (.tuple #[])) := by
  obtain ⟨S, M, h⟩ := h
  exact (crash_any w h.dsk n).mono (fun e w' hd => ⟨hd.1, h.disk (hd.2.1.wide (fun y hy => .inl hy)) (hd.2.2.mono (fun y hy => .inl hy)) ⟨h.few.c0, h.few.c1, h.few.m, h.few.n, h.few.p, h.few.s, h.few.u⟩ (Nat.le_refl _)⟩)
theorem fail_two (h : TwoAt L W w g d m r k) (n er : Int) : Calls Tryz.prog 16 #[.pointer (some ⟨g, 0, none⟩), .int .i64 n, .int .i64 er] w (TwoDid L W w g { d with fail := failT n er } m r k (.tuple #[])) := by
  obtain ⟨S, M, h⟩ := h
  exact (fail_any w h.dsk n er).mono (fun e w' hd => ⟨hd.1, h.disk (hd.2.1.wide (fun y hy => .inl hy)) (hd.2.2.mono (fun y hy => .inl hy)) ⟨h.few.c0, h.few.c1, h.few.m, h.few.n, h.few.p, h.few.s, h.few.u⟩ (Nat.le_refl _)⟩)
theorem rcreate_two (h : TwoAt L W w g d m r k) (hk : k ≤ 90000) (x : Str) (hx : x.length ≤ 9000000000000000000) : Calls Tryz.prog 50 #[.pointer (some ⟨m, 0, none⟩), .string (bstr x)] w (TwoDid L W w g d m (createR r x).1 (k + 3) (.int .i64 (createR r x).2)) := by
  obtain ⟨S, M, h⟩ := h
  exact (rcreate_r h.ref (by omega) x hx).mono (fun e w' hd => h.rdid hd (by omega) (by omega))
theorem rappend_two (h : TwoAt L W w g d m r k) (hk : k ≤ 90000) (x : Str) {b : Str} {bv : Value} (hb : Row w bv (b.map u8v)) (hbl : b.length ≤ 1000000000) : Calls Tryz.prog 94 #[.pointer (some ⟨m, 0, none⟩), .string (bstr x), bv] w (TwoDid L W w g d m (appendR r x b).1 (k + 3) (.int .i64 (appendR r x b).2)) := by
  obtain ⟨S, M, h⟩ := h
  exact (rappend_r h.ref hk x hb hbl).mono (fun e w' hd => h.rdid hd (by omega) (by omega))
theorem rsync_two (h : TwoAt L W w g d m r k) (hk : k ≤ 90000) (x : Str) : Calls Tryz.prog 136 #[.pointer (some ⟨m, 0, none⟩), .string (bstr x)] w (TwoDid L W w g d m (syncR r x).1 (k + 3) (.int .i64 (syncR r x).2)) := by
  obtain ⟨S, M, h⟩ := h
  exact (rsync_r h.ref hk x).mono (fun e w' hd => h.rdid hd (by omega) (by omega))
theorem rrename_two (h : TwoAt L W w g d m r k) (hk : k ≤ 90000) (x y : Str) (hy : y.length ≤ 9000000000000000000) : Calls Tryz.prog 51 #[.pointer (some ⟨m, 0, none⟩), .string (bstr x), .string (bstr y)] w (TwoDid L W w g d m (renameR r x y).1 (k + 3) (.int .i64 (renameR r x y).2)) := by
  obtain ⟨S, M, h⟩ := h
  exact (rrename_r h.ref (by omega) x y hy).mono (fun e w' hd => h.rdid hd (by omega) (by omega))
theorem runlink_two (h : TwoAt L W w g d m r k) (hk : k ≤ 90000) (x : Str) : Calls Tryz.prog 49 #[.pointer (some ⟨m, 0, none⟩), .string (bstr x)] w (TwoDid L W w g d m (unlinkR r x).1 (k + 3) (.int .i64 (unlinkR r x).2)) := by
  obtain ⟨S, M, h⟩ := h
  exact (runlink_r h.ref (by omega) x).mono (fun e w' hd => h.rdid hd (by omega) (by omega))
theorem rsyncDir_two (h : TwoAt L W w g d m r k) (hk : k ≤ 90000) : Calls Tryz.prog 74 #[.pointer (some ⟨m, 0, none⟩)] w (TwoDid L W w g d m (syncDirR r).1 (k + 3) (.int .i64 (syncDirR r).2)) := by
  obtain ⟨S, M, h⟩ := h
  exact (rsyncDir_r h.ref (by omega)).mono (fun e w' hd => h.rdid hd (by omega) (by omega))
/-- one counter of the document's disk is written -/
theorem TwoAt.counter (h : TwoAt L W w g d m r k) : ∃ fv nv sv wv, Blk w m 59 (rdA r fv nv sv wv) := by
  obtain ⟨S, M, h⟩ := h
  obtain ⟨fv, nv, sv, wv, fw, hh⟩ := h.ref
  exact ⟨fv, nv, sv, wv, hh.blk⟩
theorem TwoAt.put (h : TwoAt L W w g d m r k) {o : Nat} {v : Value} {fail crash err : Int} (hv : ∀ fv nv sv wv, (rdA r fv nv sv wv).setIfInBounds o v = rdA { r with fail := fail, crash := crash, err := err } fv nv sv wv) (h1 : -1 ≤ fail ∧ fail ≤ 9223372036854775807) (h2 : -1 ≤ crash ∧ crash ≤ 9223372036854775807) : TwoAt L W (w.setCell ⟨m, o, none⟩ v) g d m { r with fail := fail, crash := crash, err := err } k ∧ Mods (fun y => W.heap.size ≤ y ∧ y ∉ L) w (w.setCell ⟨m, o, none⟩ v) := by
  obtain ⟨S, M, h⟩ := h
  obtain ⟨fv, nv, sv, wv, fw, hh⟩ := h.ref
  have hM := (Mods.refl (· = m) w).setCell (p := ⟨m, o, none⟩) (fun _ => rfl) v
  have hB : Blk (w.setCell ⟨m, o, none⟩ v) m 59 (rdA { r with fail := fail, crash := crash, err := err } fv nv sv wv) := by
    rw [← hv]
    exact hh.blk.set_ o v
  have hF : RFit { r with fail := fail, crash := crash, err := err } k := { hh.fit with t1 := h1, t2 := h2 }
  exact h.refd (RefAt.wide ⟨_, _, _, _, _, hh.turn (down := r.down) (calls := r.calls) hM hB hF⟩ (fun y hy => .inl hy)) hM (Nat.le_refl _)
end
end Rf
end Go.Proofs.YtchjncnolmiejaaGreat

/- safe: the closures of Make, Drop, Swap. Written by gen_sfclo.py. -/
namespace Go.Proofs.YtchjncnolmiejaaGreat
open Go.RowKit
namespace Sf
open Vd
section
variable {S : Nat → Prop} {w1 w : World} {g : Nat} {d : Dsk} {k : Nat}
theorem dir_any (h : On S w1 w g d k) (hk : k ≤ 89990) : Calls Tryz.prog 90 #[.func (.func 73) #[.pointer (some ⟨g, 0, none⟩)] #[]] w (Says (Tells S w1 g (sDir d) (k + 2))) :=
  again_on h _ _ _ (enters_of Tryz.func73 (by kernel_rfl) rfl _) syncDirD (fun w' d' k' hk' ho => tells_of (syncDir_on ho (by omega)))
theorem make2_on (h : On S w1 w g d k) (hk : k ≤ 89990) {p : Nat} (hp : Blk w p 29 #[.pointer (some ⟨g, 0, none⟩)]) : Calls Tryz.prog 89 #[.pointer (some ⟨p, 0, none⟩)] w (Says (Tells S w1 g (sDir d) (k + 2))) := by
  have HC := Lib.hid (dir_any h hk)
  have c0 : w.cell? ⟨p, 0, none⟩ = some (.pointer (some ⟨g, 0, none⟩)) := by rw [hp.cell]; rfl
  clear h hp
  generalize sDir d = r at *
  obtain ⟨d2, er⟩ := r
  go_enter Tryz.func89, Tryz.ntmps89
  go_wp2_with fail
  refine HC.out.mono ?_
  rintro e w2 ⟨c, rfl, rfl, ho⟩
  have HO := Lib.hid ho
  clear ho HC c0
  go_wp2_with fail
  go_ret
  exact ⟨_, rfl, rfl, HO.out⟩
theorem drop2_on (h : On S w1 w g d k) (hk : k ≤ 89990) {p : Nat} (hp : Blk w p 29 #[.pointer (some ⟨g, 0, none⟩)]) : Calls Tryz.prog 115 #[.pointer (some ⟨p, 0, none⟩)] w (Says (Tells S w1 g (sDir d) (k + 2))) := by
  have HC := Lib.hid (dir_any h hk)
  have c0 : w.cell? ⟨p, 0, none⟩ = some (.pointer (some ⟨g, 0, none⟩)) := by rw [hp.cell]; rfl
  clear h hp
  generalize sDir d = r at *
  obtain ⟨d2, er⟩ := r
  go_enter Tryz.func115, Tryz.ntmps115
  go_wp2_with fail
  refine HC.out.mono ?_
  rintro e w2 ⟨c, rfl, rfl, ho⟩
  have HO := Lib.hid ho
  clear ho HC c0
  go_wp2_with fail
  go_ret
  exact ⟨_, rfl, rfl, HO.out⟩
theorem swap4_on (h : On S w1 w g d k) (hk : k ≤ 89990) {p : Nat} (hp : Blk w p 29 #[.pointer (some ⟨g, 0, none⟩)]) : Calls Tryz.prog 107 #[.pointer (some ⟨p, 0, none⟩)] w (Says (Tells S w1 g (sDir d) (k + 2))) := by
  have HC := Lib.hid (dir_any h hk)
  have c0 : w.cell? ⟨p, 0, none⟩ = some (.pointer (some ⟨g, 0, none⟩)) := by rw [hp.cell]; rfl
  clear h hp
  generalize sDir d = r at *
  obtain ⟨d2, er⟩ := r
  go_enter Tryz.func107, Tryz.ntmps107
  go_wp2_with fail
  refine HC.out.mono ?_
  rintro e w2 ⟨c, rfl, rfl, ho⟩
  have HO := Lib.hid ho
  clear ho HC c0
  go_wp2_with fail
  go_ret
  exact ⟨_, rfl, rfl, HO.out⟩
theorem drop1_on (h : On S w1 w g d k) (hk : k ≤ 89980) {p q : Nat} {x : Str} (hx : x.length ≤ 100) (hb : Boxes w p q g x) : Calls Tryz.prog 114 #[.pointer (some ⟨p, 0, none⟩), .pointer (some ⟨q, 0, none⟩)] w (Says (Tells S w1 g (unlinkD d x) (k + 1))) := by
  have hxm : x.length ≤ maxLen := by unfold maxLen; omega
  have HC := Lib.hid (unlink_on h (by omega) x hxm)
  have c0 : w.cell? ⟨p, 0, none⟩ = some (.pointer (some ⟨g, 0, none⟩)) := by rw [hb.dp.cell]; rfl
  have c1 : w.cell? ⟨q, 0, none⟩ = some (.string (bstr x)) := by rw [hb.nm.cell]; rfl
  clear h hb
  generalize unlinkD d x = r at *
  obtain ⟨d2, er⟩ := r
  go_enter Tryz.func114, Tryz.ntmps114
  go_wp2_with fail
  refine HC.out.mono ?_
  rintro e w2 ⟨rfl, ho⟩
  have HO := Lib.hid ho
  clear ho HC c0 c1
  go_wp2_with fail
  go_ret
  exact ⟨_, rfl, rfl, HO.out⟩
theorem swap1_on (h : On S w1 w g d k) (hk : k ≤ 89980) {p q : Nat} {x : Str} (hx : x.length ≤ 100) (hb : Boxes w p q g x) : Calls Tryz.prog 103 #[.pointer (some ⟨p, 0, none⟩), .pointer (some ⟨q, 0, none⟩)] w (Says (Tells S w1 g (createD d x) (k + 1))) := by
  have hxm : x.length ≤ maxLen := by unfold maxLen; omega
  have HC := Lib.hid (create_on h (by omega) x (by omega))
  have c0 : w.cell? ⟨p, 0, none⟩ = some (.pointer (some ⟨g, 0, none⟩)) := by rw [hb.dp.cell]; rfl
  have c1 : w.cell? ⟨q, 0, none⟩ = some (.string (bstr x)) := by rw [hb.nm.cell]; rfl
  clear h hb
  generalize createD d x = r at *
  obtain ⟨d2, er⟩ := r
  go_enter Tryz.func103, Tryz.ntmps103
  go_wp2_with fail
  refine HC.out.mono ?_
  rintro e w2 ⟨rfl, ho⟩
  have HO := Lib.hid ho
  clear ho HC c0 c1
  go_wp2_with fail
  go_ret
  exact ⟨_, rfl, rfl, HO.out⟩
theorem make1_on (h : On S w1 w g d k) (hk : k ≤ 89980) {p q r : Nat} {x b : Str} {p0 : Option Addr} {c0 : Nat} (hx : x.length ≤ 100) (hs : Stays S w1 (.slice p0 b.length c0) (b.map u8v)) (hbl : b.length ≤ 1000000000) (hb : Boxes w p q g x) (hr : Blk w r 22 #[.slice p0 b.length c0]) : Calls Tryz.prog 88 #[.pointer (some ⟨p, 0, none⟩), .pointer (some ⟨q, 0, none⟩), .pointer (some ⟨r, 0, none⟩)] w (Says (Tells S w1 g (sAppend x b d) (k + 3))) := by
  have hxm : x.length ≤ maxLen := by unfold maxLen; omega
  have HC := Lib.hid (sappend_on h hk hxm hs hbl)
  have e0 : w.cell? ⟨p, 0, none⟩ = some (.pointer (some ⟨g, 0, none⟩)) := by rw [hb.dp.cell]; rfl
  have e1 : w.cell? ⟨q, 0, none⟩ = some (.string (bstr x)) := by rw [hb.nm.cell]; rfl
  have e2 : w.cell? ⟨r, 0, none⟩ = some (.slice p0 b.length c0) := by rw [hr.cell]; rfl
  clear h hb hs hr
  generalize sAppend x b d = r at *
  obtain ⟨d2, er⟩ := r
  go_enter Tryz.func88, Tryz.ntmps88
  go_wp2_with fail
  refine HC.out.mono ?_
  rintro e w2 ⟨c, rfl, rfl, ho⟩
  have HO := Lib.hid ho
  clear ho HC e0 e1 e2
  go_wp2_with fail
  go_ret
  exact ⟨_, rfl, rfl, HO.out⟩
theorem swap2_on (h : On S w1 w g d k) (hk : k ≤ 89980) {p q r : Nat} {x b : Str} {p0 : Option Addr} {c0 : Nat} (hx : x.length ≤ 100) (hs : Stays S w1 (.slice p0 b.length c0) (b.map u8v)) (hbl : b.length ≤ 1000000000) (hb : Boxes w p q g x) (hr : Blk w r 22 #[.slice p0 b.length c0]) : Calls Tryz.prog 104 #[.pointer (some ⟨p, 0, none⟩), .pointer (some ⟨q, 0, none⟩), .pointer (some ⟨r, 0, none⟩)] w (Says (Tells S w1 g (sAppend x b d) (k + 3))) := by
  have hxm : x.length ≤ maxLen := by unfold maxLen; omega
  have HC := Lib.hid (sappend_on h hk hxm hs hbl)
  have e0 : w.cell? ⟨p, 0, none⟩ = some (.pointer (some ⟨g, 0, none⟩)) := by rw [hb.dp.cell]; rfl
  have e1 : w.cell? ⟨q, 0, none⟩ = some (.string (bstr x)) := by rw [hb.nm.cell]; rfl
  have e2 : w.cell? ⟨r, 0, none⟩ = some (.slice p0 b.length c0) := by rw [hr.cell]; rfl
  clear h hb hs hr
  generalize sAppend x b d = r at *
  obtain ⟨d2, er⟩ := r
  go_enter Tryz.func104, Tryz.ntmps104
  go_wp2_with fail
  refine HC.out.mono ?_
  rintro e w2 ⟨c, rfl, rfl, ho⟩
  have HO := Lib.hid ho
  clear ho HC e0 e1 e2
  go_wp2_with fail
  go_ret
  exact ⟨_, rfl, rfl, HO.out⟩
theorem swap3_on (h : On S w1 w g d k) (hk : k ≤ 89980) {p q r : Nat} {x y : Str} (hx : x.length ≤ 100) (hy : y.length ≤ 100) (hb : Boxes w p q g x) (hr : Blk w r 9 #[.string (bstr y)]) : Calls Tryz.prog 105 #[.pointer (some ⟨p, 0, none⟩), .pointer (some ⟨q, 0, none⟩), .pointer (some ⟨r, 0, none⟩)] w (Says (Tells S w1 g (renameD d x y) (k + 1))) := by
  have HC := Lib.hid (rename_on h (by omega) x y (by omega) (by omega))
  have c0 : w.cell? ⟨p, 0, none⟩ = some (.pointer (some ⟨g, 0, none⟩)) := by rw [hb.dp.cell]; rfl
  have c1 : w.cell? ⟨q, 0, none⟩ = some (.string (bstr x)) := by rw [hb.nm.cell]; rfl
  have c2 : w.cell? ⟨r, 0, none⟩ = some (.string (bstr y)) := by rw [hr.cell]; rfl
  clear h hb hr
  generalize renameD d x y = r at *
  obtain ⟨d2, er⟩ := r
  go_enter Tryz.func105, Tryz.ntmps105
  go_wp2_with fail
  refine HC.out.mono ?_
  rintro e w2 ⟨rfl, ho⟩
  have HO := Lib.hid ho
  clear ho HC c0 c1 c2
  go_wp2_with fail
  go_ret
  exact ⟨_, rfl, rfl, HO.out⟩
end
end Sf
end Go.Proofs.YtchjncnolmiejaaGreat

/- safe: Make, Drop. -/
namespace Go.Proofs.YtchjncnolmiejaaGreat
open Go.RowKit
namespace Sf
open Vd
/-- an error that is not the power's: what was made is taken away -/
def tidyD (x : Str) (q : Dsk × Int) : Dsk × Int := if q.2 = 0 ∨ q.2 = 11 then q else ((sUnlink x q.1).1, q.2)
def sMake (x b : Str) (d : Dsk) : Dsk × Int :=
  if hasD d x then (d, 8) else if (createD d x).2 ≠ 0 then createD d x
  else tidyD x (thenD (sAppend x b (createD d x).1) sDir)
def sDrop (x : Str) (d : Dsk) : Dsk × Int := if d.off = false ∧ hasD d x = false then (d, 0) else thenD (unlinkD d x) sDir
section
variable {S : Nat → Prop} {w1 w wb w2 w3 : World} {g : Nat} {d d2 : Dsk} {k k2 : Nat}
theorem off_set (h : On S w1 w g d k) (_h2 : On (More S w1 w) wb w2 g d2 k2) {b : Nat} (h1 : w.heap.size ≤ b) (hlt : b < wb.heap.size) : ¬ More (More S w1 w) wb w2 b := fun hy => by
  have hs := h.mods.size
  rcases hy with (hy | hy) | hy
  · have := h.lt b hy
    omega
  · omega
  · omega
set_option maxRecDepth 100000 in
set_option maxHeartbeats 2000000 in
theorem smake_on (h : On S w1 w g d k) (hk : k ≤ 89970) {x b : Str} {p0 : Option Addr} {c0 : Nat} (hx : x.length ≤ 100) (hs : Stays S w1 (.slice p0 b.length c0) (b.map u8v)) (hbl : b.length ≤ 1000000000) : Calls Tryz.prog 41 #[.pointer (some ⟨g, 0, none⟩), .string (bstr x), .slice p0 b.length c0] w (Says (Tells S w1 g (sMake x b d) (k + 8))) := by
  have H := Lib.hid h
  have HS := Lib.hid hs
  have hxm : x.length ≤ maxLen := by unfold maxLen; omega
  have HX0 : Hid (sMake x b d = if hasD d x then (d, 8) else if (createD d x).2 ≠ 0 then createD d x else tidyD x (thenD (sAppend x b (createD d x).1) sDir)) := Lib.hid rfl
  clear h hs
  go_enter Tryz.func41, Tryz.ntmps41
  go_upto_region 1 with fail
  generalize hW : World.alloc _ _ = wb
  have HB := Lib.hid (show Boxes wb w.heap.size (w.heap.size + 1) g x from by
    rw [← hW]
    exact ⟨((Blk.new _ _ _ rfl).alloc _).alloc _, (Blk.new _ _ _ (by rw [Frm.alloc_size])).alloc _⟩)
  have HR := Lib.hid (show Blk wb (w.heap.size + 1 + 1) 22 #[.slice p0 b.length c0] from by
    rw [← hW]
    exact Blk.new _ _ _ (by rw [Frm.alloc_size, Frm.alloc_size]))
  have HK := Lib.hid (show Keeps w wb from by rw [← hW]; exact (((Keeps.refl _).alloc _).alloc _).alloc _)
  clear hW
  have HOB := Lib.hid (H.out.base HK.out)
  have HHS := Lib.hid (has_on HOB.out x hxm)
  have b0 : wb.cell? ⟨w.heap.size, 0, none⟩ = some (.pointer (some ⟨g, 0, none⟩)) := by rw [HB.out.dp.cell]; rfl
  have b1 : wb.cell? ⟨w.heap.size + 1, 0, none⟩ = some (.string (bstr x)) := by rw [HB.out.nm.cell]; rfl
  cases hh : hasD d x with
  | true =>
    have HX : Hid (sMake x b d = (d, 8)) := Lib.hid (HX0.out.trans (if_pos hh))
    rw [hh] at HHS
    clear hh HX0
    go_wp2_with fail
    refine HHS.out.mono ?_
    rintro e w2 ⟨rfl, rfl⟩
    go_wp2_with fail
    go_ret
    refine ⟨8, rfl, ?_⟩
    rw [HX.out]
    exact ⟨rfl, On.more (H.out.back HK.out HOB.out) (by omega)⟩
  | false =>
    have HX1 := Lib.hid (HX0.out.trans (if_neg (by simp [hh])))
    rw [hh] at HHS
    have HCR := Lib.hid (create_on HOB.out (by omega) x (by omega))
    clear hh HX0
    generalize createD d x = r at *
    obtain ⟨d2, er⟩ := r
    go_wp2_with fail
    refine HHS.out.mono ?_
    rintro e w2 ⟨rfl, rfl⟩
    go_wp2_with fail
    refine HCR.out.mono ?_
    rintro e w2 ⟨rfl, ho2⟩
    have HO2 := Lib.hid ho2
    clear ho2 HCR HHS b0 b1
    by_cases he : er = 0
    · subst he
      have HX2 : Hid (sMake x b d = tidyD x (thenD (sAppend x b d2) sDir)) := Lib.hid (HX1.out.trans (if_neg (by simp)))
      clear HX1
      have HN : Hid (∀ b, w.heap.size ≤ b → b < wb.heap.size → ¬ More (More S w1 w) wb w2 b) := Lib.hid (fun b h1 h2 => off_set H.out HO2.out h1 h2)
      have HB2 := Lib.hid (show Boxes w2 w.heap.size (w.heap.size + 1) g x from ⟨H.out.blk HO2.out HB.out.dp (Nat.le_refl _), H.out.blk HO2.out HB.out.nm (by omega)⟩)
      have HR2 := Lib.hid (H.out.blk HO2.out HR.out (by omega))
      have hlt : w.heap.size + 1 + 1 < wb.heap.size := HR.out.lt
      obtain ⟨p, hp⟩ : ∃ p, p = w.heap.size := ⟨_, rfl⟩
      rw [← hp] at HB HR HB2 HR2 HN hlt ⊢
      clear hp
      go_wp2_with fail
      generalize hW : World.alloc w2 _ = w3
      have HK3 := Lib.hid (show Keeps w2 w3 from by rw [← hW]; exact (Keeps.refl _).alloc _)
      have HBB := Lib.hid (show Blk w3 w2.heap.size 135 #[cloV (88, #[], #[.pointer (some ⟨p, 0, none⟩), .pointer (some ⟨p + 1, 0, none⟩), .pointer (some ⟨p + 1 + 1, 0, none⟩)]), cloV (89, #[], #[.pointer (some ⟨p, 0, none⟩)])] from by
        rw [← hW]
        exact Blk.new _ _ _ rfl)
      clear hW
      have HO3 := Lib.hid (HO2.out.base HK3.out)
      have HS3 := Lib.hid ((HS.out.base H.out HK.out).base HO2.out HK3.out)
      have HST := Lib.hid (steps2_on HO3.out HBB.out (fun hy => by
          have h0 := HO2.out.mods.size
          rcases hy with hy | hy
          · have := HO2.out.lt _ hy
            omega
          · omega) (enters_of Tryz.func88 (by kernel_rfl) rfl _) (enters_of Tryz.func89 (by kernel_rfl) rfl _) (sAppend x b) sDir (k1 := k + 4) (k2 := k + 6) (by omega)
        (fun w' ho => make1_on ho (by omega) hx HS3.out hbl ⟨On.kept ho (HB2.out.dp.keeps HK3.out) (HN.out _ (Nat.le_refl _) (by omega)), On.kept ho (HB2.out.nm.keeps HK3.out) (HN.out _ (by omega) (by omega))⟩ (On.kept ho (HR2.out.keeps HK3.out) (HN.out _ (by omega) hlt)))
        (fun w' d' ho => make2_on ho (by omega) (On.kept ho (HB2.out.dp.keeps HK3.out) (HN.out _ (Nat.le_refl _) (by omega)))))
      generalize thenD (sAppend x b d2) sDir = q at *
      obtain ⟨d4, eq⟩ := q
      refine HST.out.mono ?_
      rintro e w4 ⟨c, rfl, hc, ho⟩
      have hc : c = eq := hc
      subst hc
      have HO4 := Lib.hid ho
      have HB4 := Lib.hid (show Boxes w4 p (p + 1) g x from ⟨On.kept ho (HB2.out.dp.keeps HK3.out) (HN.out _ (Nat.le_refl _) (by omega)), On.kept ho (HB2.out.nm.keeps HK3.out) (HN.out _ (by omega) (by omega))⟩)
      clear ho HST
      have b0 : w4.cell? ⟨p, 0, none⟩ = some (.pointer (some ⟨g, 0, none⟩)) := by rw [HB4.out.dp.cell]; rfl
      have b1 : w4.cell? ⟨p + 1, 0, none⟩ = some (.string (bstr x)) := by rw [HB4.out.nm.cell]; rfl
      by_cases h0 : c = 0
      · subst h0
        have HX : Hid (sMake x b d = (d4, 0)) := Lib.hid (HX2.out.trans (if_pos (.inl rfl)))
        go_wp2_with fail
        go_ret
        refine ⟨0, rfl, ?_⟩
        rw [HX.out]
        exact ⟨rfl, On.more (H.out.back HK.out (HO2.out.back HK3.out HO4.out)) (by omega)⟩
      · by_cases h11 : c = 11
        · subst h11
          have HX : Hid (sMake x b d = (d4, 11)) := Lib.hid (HX2.out.trans (if_pos (.inr rfl)))
          go_wp2_with fail
          go_ret
          refine ⟨11, rfl, ?_⟩
          rw [HX.out]
          exact ⟨rfl, On.more (H.out.back HK.out (HO2.out.back HK3.out HO4.out)) (by omega)⟩
        · have HX : Hid (sMake x b d = ((sUnlink x d4).1, c)) := Lib.hid (HX2.out.trans (if_neg (by simp [h0, h11])))
          have e1 : (c != 0) = true := by simp [h0]
          have e2 : (c != 11) = true := by simp [h11]
          have HUL := Lib.hid (sunlink_on HO4.out (by omega) x hxm)
          clear h0 h11
          go_wp2_with fail
          refine HUL.out.mono ?_
          rintro e w5 ⟨rfl, ho5⟩
          have HO5 := Lib.hid ho5
          clear ho5 HUL b0 b1
          go_wp2_with fail
          go_ret
          refine ⟨c, rfl, ?_⟩
          rw [HX.out]
          exact ⟨rfl, On.more (H.out.back HK.out (HO2.out.back HK3.out HO5.out)) (by omega)⟩
    · have HX : Hid (sMake x b d = (d2, er)) := Lib.hid (HX1.out.trans (if_pos he))
      have he' : (er != 0) = true := by simp [he]
      clear he
      go_wp2_with fail
      go_ret
      refine ⟨er, rfl, ?_⟩
      rw [HX.out]
      exact ⟨rfl, On.more (H.out.back HK.out HO2.out) (by omega)⟩
end
end Sf
end Go.Proofs.YtchjncnolmiejaaGreat

/- safe: Drop. -/
namespace Go.Proofs.YtchjncnolmiejaaGreat
open Go.RowKit
namespace Sf
open Vd
section
variable {S : Nat → Prop} {w1 w wb w2 w3 : World} {g : Nat} {d d2 : Dsk} {k k2 : Nat}
set_option maxRecDepth 100000 in
set_option maxHeartbeats 2000000 in
theorem sdrop_on (h : On S w1 w g d k) (hk : k ≤ 89970) {x : Str} (hx : x.length ≤ 100) : Calls Tryz.prog 68 #[.pointer (some ⟨g, 0, none⟩), .string (bstr x)] w (Says (Tells S w1 g (sDrop x d) (k + 3))) := by
  have H := Lib.hid h
  have hxm : x.length ≤ maxLen := by unfold maxLen; omega
  have HX0 : Hid (sDrop x d = if d.off = false ∧ hasD d x = false then (d, 0) else thenD (unlinkD d x) sDir) := Lib.hid rfl
  clear h
  go_enter Tryz.func68, Tryz.ntmps68
  go_upto_region 1 with fail
  generalize hW : World.alloc _ _ = wb
  have HB := Lib.hid (show Boxes wb w.heap.size (w.heap.size + 1) g x from by
    rw [← hW]
    exact ⟨(Blk.new _ _ _ rfl).alloc _, Blk.new _ _ _ (by rw [Frm.alloc_size])⟩)
  have HK := Lib.hid (show Keeps w wb from by rw [← hW]; exact ((Keeps.refl _).alloc _).alloc _)
  clear hW
  have HOB := Lib.hid (H.out.base HK.out)
  have HHS := Lib.hid (has_on HOB.out x hxm)
  have HDN := Lib.hid (down_any wb HOB.out.dsk)
  have b0 : wb.cell? ⟨w.heap.size, 0, none⟩ = some (.pointer (some ⟨g, 0, none⟩)) := by rw [HB.out.dp.cell]; rfl
  have b1 : wb.cell? ⟨w.heap.size + 1, 0, none⟩ = some (.string (bstr x)) := by rw [HB.out.nm.cell]; rfl
  have hlt : w.heap.size + 1 < wb.heap.size := HB.out.nm.lt
  have HN : Hid (∀ b, w.heap.size ≤ b → b < wb.heap.size → ¬ More S w1 w b) := Lib.hid (fun b h1 h2 hy => by
    have hs := H.out.mods.size
    rcases hy with hy | hy
    · have := H.out.lt b hy
      omega
    · omega)
  obtain ⟨p, hp⟩ : ∃ p, p = w.heap.size := ⟨_, rfl⟩
  rw [← hp] at HB b0 b1 HN hlt ⊢
  clear hp
  go_cut [13] (fun t wx => t = .bool (!d.off && !hasD d x) ∧ wx = wb)
  case first =>
    cases ho : d.off with
    | true =>
      rw [ho] at HDN
      have HO := Lib.hid ho
      clear ho
      go_wp2_with fail
      refine HDN.out.mono ?_
      rintro e w2 ⟨rfl, rfl⟩
      go_wp2_with fail
      go_meet
      exact ⟨by rw [HO.out]; rfl, rfl⟩
    | false =>
      rw [ho] at HDN
      have HO := Lib.hid ho
      clear ho
      generalize hasD d x = hh at *
      go_wp2_with fail
      refine HDN.out.mono ?_
      rintro e w2 ⟨rfl, rfl⟩
      go_wp2_with fail
      refine HHS.out.mono ?_
      rintro e w2 ⟨rfl, rfl⟩
      go_wp2_with fail
      go_meet
      exact ⟨by rw [HO.out]; rfl, rfl⟩
  case rest =>
  obtain ⟨rfl, rfl⟩ := hcut
  obtain ⟨wb, rfl⟩ : ∃ z : World, z = wc := ⟨_, rfl⟩
  clear HHS HDN b0 b1
  by_cases hc : d.off = false ∧ hasD d x = false
  · have HX : Hid (sDrop x d = (d, 0)) := Lib.hid (HX0.out.trans (if_pos hc))
    have ht : (!d.off && !hasD d x) = true := by simp [hc.1, hc.2]
    rw [ht]
    clear hc ht
    go_wp2_with fail
    go_ret
    refine ⟨0, rfl, ?_⟩
    rw [HX.out]
    exact ⟨rfl, On.more (H.out.back HK.out HOB.out) (by omega)⟩
  · have HX : Hid (sDrop x d = thenD (unlinkD d x) sDir) := Lib.hid (HX0.out.trans (if_neg hc))
    have ht : (!d.off && !hasD d x) = false := by
      cases h1 : d.off <;> cases h2 : hasD d x <;> simp_all
    rw [ht]
    clear hc ht
    go_wp2_with fail
    generalize hW : World.alloc wb _ = w3
    have HK3 := Lib.hid (show Keeps wb w3 from by rw [← hW]; exact (Keeps.refl _).alloc _)
    have HBB := Lib.hid (show Blk w3 wb.heap.size 135 #[cloV (114, #[], #[.pointer (some ⟨p, 0, none⟩), .pointer (some ⟨p + 1, 0, none⟩)]), cloV (115, #[], #[.pointer (some ⟨p, 0, none⟩)])] from by
      rw [← hW]
      exact Blk.new _ _ _ rfl)
    clear hW
    have HO3 := Lib.hid (HOB.out.base HK3.out)
    have HN3 : Hid (∀ b, p ≤ b → b < wb.heap.size → ¬ More (More S w1 w) wb wb b) := Lib.hid (fun b h1 h2 hy => hy.elim (HN.out b h1 h2) (fun hh => by omega))
    have HST := Lib.hid (steps2_on HO3.out HBB.out (fun hy => by
        rcases hy with hy | hy
        · have := HOB.out.lt _ hy
          omega
        · omega) (enters_of Tryz.func114 (by kernel_rfl) rfl _) (enters_of Tryz.func115 (by kernel_rfl) rfl _) (fun d => unlinkD d x) sDir (k1 := k + 1) (k2 := k + 3) (by omega)
      (fun w' ho => drop1_on ho (by omega) hx ⟨On.kept ho (HB.out.dp.keeps HK3.out) (HN3.out _ (Nat.le_refl _) (by omega)), On.kept ho (HB.out.nm.keeps HK3.out) (HN3.out _ (by omega) hlt)⟩)
      (fun w' d' ho => drop2_on ho (by omega) (On.kept ho (HB.out.dp.keeps HK3.out) (HN3.out _ (Nat.le_refl _) (by omega)))))
    refine HST.out.mono ?_
    rintro e w4 ⟨c, rfl, rfl, ho⟩
    have HO4 := Lib.hid ho
    clear ho HST
    go_wp2_with fail
    go_ret
    refine ⟨_, rfl, ?_⟩
    rw [HX.out]
    exact ⟨rfl, H.out.back HK.out (HOB.out.back HK3.out HO4.out)⟩
end
end Sf
end Go.Proofs.YtchjncnolmiejaaGreat
