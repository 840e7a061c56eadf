/- The law MboxTakes, walked. -/
import Derived.Test.YtohchhgheeolpaaK32
import Derived.Test.YtohchhgheeolpaaK12
import Derived.Deep.DeepCutAuto
import Derived.Deep.CutBlock
namespace Go.Proofs.Ytohchhgheeolpaa
open Go.RowKit
namespace Mbx
open Rcd Go.Maps

theorem EntsAt.box' {w w' : World} {base g b1 b2 n : Nat} {v : Value} {l : List Ent} {m : Box} (h : EntsAt w base v l) (hb : BoxAt w g b1 b2 n m) (k : Mods (BFr g b1 b2) w w') : EntsAt w' base v l := by
  refine Frm.ownsRow_mods h k (fun x hx hs => ?_)
  rcases h.2 with ⟨rfl, _⟩ | ⟨q, cap, cur, rfl, _, hgg, _⟩
  · simp [Value.ownBlock] at hx
  · simp [Value.ownBlock] at hx
    subst hx
    rcases hs with rfl | rfl | rfl
    · have := hb.blk
      unfold Blk at this
      rw [hgg] at this
      simp at this
    · obtain ⟨D, ⟨es, cl, h1, _⟩, _⟩ := hb.ent
      rw [hgg] at h1
      simp at h1
    · obtain ⟨D, ⟨es, cl, h1, _⟩, _⟩ := hb.org
      rw [hgg] at h1
      simp at h1
theorem rnew_any (w : World) : Calls Try.prog 52 #[] w fun e w' => e = .returned (.agg #[.slice none 0 0, .int .i64 1]) ∧ Keeps w w' := by
  go_enter Try.func52, Try.ntmps52
  go_wp2_with fail
  exact bodyPost_ret (v := .agg #[.slice none 0 0, .int .i64 1]) (by simp [results, Try.results52, go_sem]) rfl ⟨rfl, (Keeps.refl _).alloc _⟩
theorem intok : ElemOk Try.prog 33 3 8 := elemOk (z := .int .i64 0) Try.underlying33 (by kernel_rfl) rfl
def fromEnt (m : Box) (x : Int) : Ent := match fromM m x with | none => zeroEnt | some u => (m.ent u).getD zeroEnt
theorem from_e (w : World) {g b1 b2 n : Nat} {m : Box} (h : BoxAt w g b1 b2 n m) (x : Int) (hx : (Lit.int .i64 x).wf = true) (hu : ∀ u, m.org x = some u → (Lit.int .i64 u).wf = true) : Calls Try.prog 57 #[.pointer (some ⟨g, 0, none⟩), .int .i64 x] w fun e w' => e = .returned (.tuple #[.agg (entA (fromEnt m x)), .bool (fromM m x).isSome]) ∧ Keeps w w' := from_g w h x hx hu
/-- where the law stands behind j records: the mailbox, the document's one -/
structure TkAt (W wr : World) (g b1 b2 q j : Nat) (p : Option Addr) (c : Nat) (m : Box) (L : List Ent) : Prop where
  box : BoxAt wr g b1 b2 (2 * j) m
  st : St m L j
  good : ∀ e ∈ L, Good e
  ents : EntsAt wr W.heap.size (.slice p L.length c) L
  x : Blk wr q 92 #[.slice p L.length c, .int .i64 m.next]
  keeps : Keeps W wr
  ge : ∀ x, BFr g b1 b2 x → W.heap.size ≤ x
  qne : ¬ BFr g b1 b2 q
  qge : W.heap.size ≤ q
theorem TkAt.then {W w w' : World} {g b1 b2 q j c : Nat} {p : Option Addr} {m : Box} {L : List Ent} (h : TkAt W w g b1 b2 q j p c m L) (k : Keeps w w') : TkAt W w' g b1 b2 q j p c m L :=
  { h with box := h.box.keeps k, ents := h.ents.keeps k, x := h.x.keeps k, keeps := h.keeps.trans k }

set_option maxRecDepth 100000 in
set_option maxHeartbeats 8000000 in
theorem mboxTakes_walk (W : World) (v0 : Value) (l : List RecX) (uid og ra : Int) (r0 : RowS W 12 v0 l.length (l.flatMap recC)) (w0 : ∀ y ∈ l, RecOk W y)
    (_w1 : (Lit.int .i64 uid).wf = true) (_w2 : (Lit.int .i64 og).wf = true) (_w3 : (Lit.int .i64 ra).wf = true) :
    Calls Try.prog 12 #[v0, .int .i64 uid, .int .i64 og, .int .i64 ra] W fun e w' => e = .returned (.bool true) ∧ Keeps W w' := by
  obtain ⟨p0, c0, rfl, hc0, hc1⟩ := r0.form
  have HR0 := Lib.hid r0
  have HW0 := Lib.hid (fun y hy => (w0 y hy).row)
  have HWF := Lib.hid (And.intro _w1 (And.intro _w2 _w3))
  clear r0 w0 _w1 _w2 _w3
  go_enter Try.func12, Try.ntmps12
  go_wp2_with fail
  refine (awake20_any W).mono ?_
  rintro e w1 ⟨rfl, hk1⟩
  have HK := Lib.hid hk1
  have HFW := Lib.hid (few_any w1 (.slice p0 l.length c0) l 40 (by decide) (RowS.keeps HR0.out hk1) (fun y hy => (HW0.out y hy).keeps hk1))
  clear hk1
  go_wp2_with fail
  refine HFW.out.mono ?_
  rintro e w2 ⟨bb, rfl, hl40, hk2⟩
  have HK := Lib.hid (HK.out.trans hk2)
  clear hk2 HFW
  cases bb with
  | false =>
    go_wp2_with fail
    go_ret
    exact ⟨rfl, HK.out⟩
  | true =>
  have hle := hl40 rfl
  clear hl40
  go_wp2_with fail
  refine (new_any w2).mono ?_
  rintro e w3 ⟨g, b1, b2, rfl, hg, h1, h2, hb, hk⟩
  have HGE := Lib.hid (bfr_ge (Nat.le_trans HK.out.size hg) (Nat.le_trans HK.out.size h1) (Nat.le_trans HK.out.size h2))
  have HB := Lib.hid hb
  have HK := Lib.hid (HK.out.trans hk)
  clear hb hk hg h1 h2
  go_wp2_with fail
  refine (rnew_any w3).mono ?_
  rintro e w4 ⟨rfl, hk4⟩
  have HB := Lib.hid (HB.out.keeps hk4)
  have HK := Lib.hid (HK.out.trans hk4)
  clear hk4
  go_upto_region 7 with fail
  generalize hW : World.alloc w4 _ = w5
  have HS := Lib.hid (show TkAt W w5 g b1 b2 w4.heap.size 0 none 0 new [] from by
    have hk5 : Keeps w4 w5 := by rw [← hW]; exact (Keeps.refl _).alloc _
    exact ⟨HB.out.keeps hk5, st_new, by simp, EntsAt.nil _ _, by rw [← hW]; exact Blk.new _ _ _ rfl, HK.out.trans hk5, HGE.out, fun hx => by have := HB.out.lt _ hx; omega, HK.out.size⟩)
  clear hW HB HK HGE
  generalize w4.heap.size = q at *
  go_wp2_with fail
  go_loopw [11] (fun i wr => ∃ (j : Nat) (p : Option Addr) (c : Nat) (m : Box) (L : List Ent), i = .int .i64 (j : Int) ∧ j ≤ l.length ∧ Hid (TkAt W wr g b1 b2 q j p c m L)) (fun i _ => l.length - (RowKit.intOf i).toNat)
  case atStart => exact ⟨0, none, 0, new, [], rfl, Nat.zero_le _, HS⟩
  case round =>
    obtain ⟨j, p, c, m, L, rfl, hj, HH⟩ := hrel
    clear HS
    by_cases hlt : j < l.length
    · obtain ⟨bb, off, cap, hv, hrg⟩ := rowS_rec' (RowS.keeps HR0.out HH.out.keeps) hlt
      simp only [Value.slice.injEq] at hv
      obtain ⟨rfl, -, rfl⟩ := hv
      have HG := Lib.hid hrg
      have hLl : L.length ≤ 900000 := Nat.le_trans (Rel.len_le HH.out.box HH.out.st.rel) (by omega)
      have hws := HH.out.keeps.size
      have HRW := Lib.hid ((HW0.out l[j] (List.getElem_mem hlt)).keeps HH.out.keeps)
      have HTR := Lib.hid (fun w' (k : Keeps wr w') => rTakeBox_any w' (HH.out.ents.keeps k) (Nat.le_trans hws k.size) HH.out.st (by omega) hLl l[j].1 l[j].2 (HRW.out.keeps k))
      have HTK := Lib.hid (fun w' (k : Keeps wr w') => take_any w' (HH.out.box.keeps k) (by omega) l[j].1 l[j].2 (HRW.out.keeps k))
      have HST := Lib.hid (st_take HH.out.st (by omega) l[j].1)
      have HGD := Lib.hid (good_take HH.out.good l[j].1)
      have HX := Lib.hid HH.out.x
      clear hrg
      generalize take m l[j].1 = tk at *
      obtain ⟨m', ok⟩ := tk
      generalize takeL L l[j].1 = tl at *
      obtain ⟨L', ok'⟩ := tl
      obtain rfl : ok = ok' := HST.out.2.1
      have HST := Lib.hid (show St m' L' (j + 1) ∧ ok = ok ∧ Step L L' from HST.out)
      have HGD := Lib.hid (show ∀ e ∈ L', Good e from HGD.out)
      obtain ⟨y0, rfl⟩ : ∃ z : World, z = wr := ⟨_, rfl⟩
      go_upto_region 10 with fail
      go_cut [12, 13] (fun pt b wx => ∃ (q2 : Nat) (p' : Option Addr) (c' : Nat), pt = .pointer (some ⟨q2, 0, none⟩) ∧ b = .bool ok ∧ Hid (Blk wx q2 92 #[.slice p' L'.length c', .int .i64 m'.next] ∧ EntsAt wx W.heap.size (.slice p' L'.length c') L' ∧ Keeps y0 wx ∧ y0.heap.size ≤ q2))
      case first =>
        refine wp_region_noPanic ?_
        refine wp_region_held_drew (S := fun w' => Keeps y0 w') (by kernel_rfl) ((Keeps.refl y0).drew) (fun _ => ?_)
        have hHeld : Keeps y0 (y0).drew := (Keeps.refl y0).drew
        generalize World.drew y0 = xs at *
        refine wpAnyH_take (i := 0) (by rfl) (by kernel_rfl) (by kernel_rfl) (by kernel_rfl) (by intro _ _ _ h; exact h) (yieldsIf_ld (by kernel_rfl) rboxM (fun w' hS => HX.out.keeps hS) _ rfl rfl) (by assumption) ?rest1
        change wpAnyH _ _ _ _ _ _ _ (Act.put _ (some 41) _) _
        try simp only [Act.put, List.setIfInBounds_toArray, List.set_cons_zero, List.set_cons_succ]
        refine wpAnyH_take (i := 1) (v := ?vv2) (by rfl) (by kernel_rfl) (by kernel_rfl) (by kernel_rfl) (by intro _ _ _ h; exact h) (Or.inl ⟨by kernel_rfl, ?hy2⟩) (by assumption) ?rest2
        case hy2 =>
          intro w' hSw
          have hSw : Keeps y0 w' := hSw
          clear hSw
          go_simp
          try with_reducible rfl
        change wpAnyH _ _ _ _ _ _ _ (Act.put _ (some 42) _) _
        try simp only [Act.put, List.setIfInBounds_toArray, List.set_cons_zero, List.set_cons_succ]
        refine wpAnyH_take (i := 2) (v := ?vv3) (by rfl) (by kernel_rfl) (by kernel_rfl) (by kernel_rfl) (by intro _ _ _ h; exact h) (Or.inl ⟨by kernel_rfl, ?hy3⟩) (by assumption) ?rest3
        case hy3 =>
          intro w' hSw
          have hSw : Keeps y0 w' := hSw
          clear hSw
          go_simp
          try with_reducible rfl
        change wpAnyH _ _ _ _ _ _ _ (Act.put _ (some 43) _) _
        try simp only [Act.put, List.setIfInBounds_toArray, List.set_cons_zero, List.set_cons_succ]
        refine wpAnyH_take (i := 3) (v := ?vv4) (by rfl) (by kernel_rfl) (by kernel_rfl) (by kernel_rfl) (by intro _ _ _ h; exact h) (Or.inl ⟨by kernel_rfl, ?hy4⟩) (by assumption) ?rest4
        case hy4 =>
          intro w' hSw
          have hSw : Keeps y0 w' := hSw
          clear hSw
          go_simp
          try with_reducible rfl
        change wpAnyH _ _ _ _ _ _ _ (Act.put _ (some 44) _) _
        try simp only [Act.put, List.setIfInBounds_toArray, List.set_cons_zero, List.set_cons_succ]
        refine wpAnyH_take (i := 4) (by rfl) (by kernel_rfl) (by kernel_rfl) (by kernel_rfl) (by intro _ _ _ h; exact h) (yieldsIf_ldR (by kernel_rfl) recM (fun w' hS => range_keeps' HG.out hS) _ rfl rfl) (by assumption) ?rest5
        change wpAnyH _ _ _ _ _ _ _ (Act.put _ (some 45) _) _
        try simp only [Act.put, List.setIfInBounds_toArray, List.set_cons_zero, List.set_cons_succ]
        refine wpAnyH_ready (rs := [5, 9]) (by kernel_rfl) (by simp) ?_
        refine AllReadyH.cons (o := _) rfl (fun K hK => ?_) ?_
        · go_simp
          refine (HTR.out _ hHeld).mono ?_
          rintro e yA ⟨v5, rfl, hen, hk⟩
          obtain ⟨p5, c5, rfl, -, -⟩ := Frm.ownsRow_form hen
          have HEN := Lib.hid hen
          clear hen
          have hb := hHeld.trans hk
          clear hk
          go_wp2_with fail
          refine hK.out _ _ hb (fun _ => ?_)
          clear hK K hHeld
          have hHeld : Keeps y0 yA := hb
          clear hb
          try simp only [Act.put, List.setIfInBounds_toArray, List.set_cons_zero, List.set_cons_succ]
          refine wpAnyH_take (i := 6) (v := ?vv6) (by rfl) (by kernel_rfl) (by kernel_rfl) (by kernel_rfl) (by intro _ _ _ h; exact h) (Or.inl ⟨by kernel_rfl, ?hy6⟩) (by assumption) ?rest6
          case hy6 =>
            intro w' hSw
            have hSw : Keeps y0 w' := hSw
            clear hSw
            go_simp
            try with_reducible rfl
          change wpAnyH _ _ _ _ _ _ _ (Act.put _ (some 40) _) _
          try simp only [Act.put, List.setIfInBounds_toArray, List.set_cons_zero, List.set_cons_succ]
          refine wpAnyH_take (i := 7) (v := ?vv7) (by rfl) (by kernel_rfl) (by kernel_rfl) (by kernel_rfl) (by intro _ _ _ h; exact h) (Or.inl ⟨by kernel_rfl, ?hy7⟩) (by assumption) ?rest7
          case hy7 =>
            intro w' hSw
            have hSw : Keeps y0 w' := hSw
            clear hSw
            go_simp
            try with_reducible rfl
          change wpAnyH _ _ _ _ _ _ _ (Act.put _ (some 47) _) _
          try simp only [Act.put, List.setIfInBounds_toArray, List.set_cons_zero, List.set_cons_succ]
          refine wpAnyH_take (i := 8) (v := ?vv8) (by rfl) (by kernel_rfl) (by kernel_rfl) (by kernel_rfl) (by intro _ _ _ h; exact h) (Or.inl ⟨by kernel_rfl, ?hy8⟩) (by assumption) ?rest8
          case hy8 =>
            intro w' hSw
            have hSw : Keeps y0 w' := hSw
            clear hSw
            go_simp
            try with_reducible rfl
          change wpAnyH _ _ _ _ _ _ _ (Act.put _ (some 48) _) _
          try simp only [Act.put, List.setIfInBounds_toArray, List.set_cons_zero, List.set_cons_succ]
          refine wpAnyH_ready (rs := [9]) (by kernel_rfl) (by simp) ?_
          refine AllReadyH.cons (o := _) rfl (fun K hK => ?_) ?_
          · go_simp
            obtain ⟨b, hb0⟩ : ∃ b, b = (World.heap yA).size := ⟨_, rfl⟩
            have hbs : y0.heap.size ≤ b := by rw [hb0]; exact hHeld.size
            rw [← hb0]
            have HBb := Lib.hid (show Blk (World.alloc yA (.cells #[.slice none 0 0, .int .i64 0] 92)) b 92 #[.slice none 0 0, .int .i64 0] from Blk.new _ _ _ hb0)
            have hb := hHeld.alloc (.cells #[.slice none 0 0, .int .i64 0] 92)
            have HEN := Lib.hid (HEN.out.keeps ((Keeps.refl yA).alloc (.cells #[.slice none 0 0, .int .i64 0] 92)))
            clear hb0
            generalize World.alloc yA _ = yB at *
            refine hK.out _ _ hb (fun _ => ?_)
            clear hK K hHeld
            have hHeld : Keeps y0 yB := hb
            clear hb
            try simp only [Act.put, List.setIfInBounds_toArray, List.set_cons_zero, List.set_cons_succ]
            refine wpAnyH_ready (rs := [10]) (by kernel_rfl) (by simp) ?_
            refine AllReadyH.cons (o := _) rfl (fun K hK => ?_) ?_
            · refine step_st (ds := #[.slice p5 L'.length c5, .int .i64 m'.next]) rfl rboxM HBb.out rfl (by simp [Value.oneCell']) _ _ rfl rfl rfl rfl ?_
              intro yF hBF hMF
              have hb := hMF.keeps hHeld (fun x hx => by omega)
              have HEN := Lib.hid (Frm.ownsRow_mods HEN.out hMF (fun x hx hs => by subst hs; exact Frm.ownsRow_ne HEN.out HBb.out (by decide) hx))
              have HBb := Lib.hid hBF
              clear hBF hMF
              refine hK.out _ _ hb (fun _ => ?_)
              clear hK K hHeld
              have hHeld : Keeps y0 yF := hb
              clear hb
              try simp only [Act.put, List.setIfInBounds_toArray, List.set_cons_zero, List.set_cons_succ]
              refine wpAnyH_take (i := 11) (v := ?vv9) (by rfl) (by kernel_rfl) (by kernel_rfl) (by kernel_rfl) (by intro _ _ _ h; exact h) (Or.inl ⟨by kernel_rfl, ?hy9⟩) (by assumption) ?rest9
              case hy9 =>
                intro w' hSw
                have hSw : Keeps y0 w' := hSw
                clear hSw
                go_simp
                try with_reducible rfl
              change wpAnyH _ _ _ _ _ _ _ (Act.put _ (some 13) _) _
              try simp only [Act.put, List.setIfInBounds_toArray, List.set_cons_zero, List.set_cons_succ]
              refine wpAnyH_done (by kernel_rfl) ?_ _
              refine NoPanic.normal ?_
              go_wp2_with fail
              go_meet
              exact ⟨b, p5, c5, rfl, rfl, Lib.hid ⟨HBb.out, HEN.out, hHeld, hbs⟩⟩
            exact AllReadyH.nil
          exact AllReadyH.nil
        refine AllReadyH.cons (o := _) rfl (fun K hK => ?_) ?_
        · go_simp
          obtain ⟨b, hb0⟩ : ∃ b, b = (World.heap xs).size := ⟨_, rfl⟩
          have hbs : y0.heap.size ≤ b := by rw [hb0]; exact hHeld.size
          rw [← hb0]
          have HBb := Lib.hid (show Blk (World.alloc xs (.cells #[.slice none 0 0, .int .i64 0] 92)) b 92 #[.slice none 0 0, .int .i64 0] from Blk.new _ _ _ hb0)
          have hb := hHeld.alloc (.cells #[.slice none 0 0, .int .i64 0] 92)
          clear hb0
          generalize World.alloc xs _ = yB at *
          refine hK.out _ _ hb (fun _ => ?_)
          clear hK K hHeld
          have hHeld : Keeps y0 yB := hb
          clear hb
          try simp only [Act.put, List.setIfInBounds_toArray, List.set_cons_zero, List.set_cons_succ]
          refine wpAnyH_ready (rs := [5]) (by kernel_rfl) (by simp) ?_
          refine AllReadyH.cons (o := _) rfl (fun K hK => ?_) ?_
          · go_simp
            refine (HTR.out _ hHeld).mono ?_
            rintro e yA ⟨v5, rfl, hen, hk⟩
            obtain ⟨p5, c5, rfl, -, -⟩ := Frm.ownsRow_form hen
            have HEN := Lib.hid hen
            clear hen
            have hb := hHeld.trans hk
            have HBb := Lib.hid (HBb.out.keeps hk)
            clear hk
            go_wp2_with fail
            refine hK.out _ _ hb (fun _ => ?_)
            clear hK K hHeld
            have hHeld : Keeps y0 yA := hb
            clear hb
            try simp only [Act.put, List.setIfInBounds_toArray, List.set_cons_zero, List.set_cons_succ]
            refine wpAnyH_take (i := 6) (v := ?vv10) (by rfl) (by kernel_rfl) (by kernel_rfl) (by kernel_rfl) (by intro _ _ _ h; exact h) (Or.inl ⟨by kernel_rfl, ?hy10⟩) (by assumption) ?rest10
            case hy10 =>
              intro w' hSw
              have hSw : Keeps y0 w' := hSw
              clear hSw
              go_simp
              try with_reducible rfl
            change wpAnyH _ _ _ _ _ _ _ (Act.put _ (some 40) _) _
            try simp only [Act.put, List.setIfInBounds_toArray, List.set_cons_zero, List.set_cons_succ]
            refine wpAnyH_take (i := 7) (v := ?vv11) (by rfl) (by kernel_rfl) (by kernel_rfl) (by kernel_rfl) (by intro _ _ _ h; exact h) (Or.inl ⟨by kernel_rfl, ?hy11⟩) (by assumption) ?rest11
            case hy11 =>
              intro w' hSw
              have hSw : Keeps y0 w' := hSw
              clear hSw
              go_simp
              try with_reducible rfl
            change wpAnyH _ _ _ _ _ _ _ (Act.put _ (some 47) _) _
            try simp only [Act.put, List.setIfInBounds_toArray, List.set_cons_zero, List.set_cons_succ]
            refine wpAnyH_take (i := 8) (v := ?vv12) (by rfl) (by kernel_rfl) (by kernel_rfl) (by kernel_rfl) (by intro _ _ _ h; exact h) (Or.inl ⟨by kernel_rfl, ?hy12⟩) (by assumption) ?rest12
            case hy12 =>
              intro w' hSw
              have hSw : Keeps y0 w' := hSw
              clear hSw
              go_simp
              try with_reducible rfl
            change wpAnyH _ _ _ _ _ _ _ (Act.put _ (some 48) _) _
            try simp only [Act.put, List.setIfInBounds_toArray, List.set_cons_zero, List.set_cons_succ]
            refine wpAnyH_ready (rs := [10]) (by kernel_rfl) (by simp) ?_
            refine AllReadyH.cons (o := _) rfl (fun K hK => ?_) ?_
            · refine step_st (ds := #[.slice p5 L'.length c5, .int .i64 m'.next]) rfl rboxM HBb.out rfl (by simp [Value.oneCell']) _ _ rfl rfl rfl rfl ?_
              intro yF hBF hMF
              have hb := hMF.keeps hHeld (fun x hx => by omega)
              have HEN := Lib.hid (Frm.ownsRow_mods HEN.out hMF (fun x hx hs => by subst hs; exact Frm.ownsRow_ne HEN.out HBb.out (by decide) hx))
              have HBb := Lib.hid hBF
              clear hBF hMF
              refine hK.out _ _ hb (fun _ => ?_)
              clear hK K hHeld
              have hHeld : Keeps y0 yF := hb
              clear hb
              try simp only [Act.put, List.setIfInBounds_toArray, List.set_cons_zero, List.set_cons_succ]
              refine wpAnyH_take (i := 11) (v := ?vv13) (by rfl) (by kernel_rfl) (by kernel_rfl) (by kernel_rfl) (by intro _ _ _ h; exact h) (Or.inl ⟨by kernel_rfl, ?hy13⟩) (by assumption) ?rest13
              case hy13 =>
                intro w' hSw
                have hSw : Keeps y0 w' := hSw
                clear hSw
                go_simp
                try with_reducible rfl
              change wpAnyH _ _ _ _ _ _ _ (Act.put _ (some 13) _) _
              try simp only [Act.put, List.setIfInBounds_toArray, List.set_cons_zero, List.set_cons_succ]
              refine wpAnyH_done (by kernel_rfl) ?_ _
              refine NoPanic.normal ?_
              go_wp2_with fail
              go_meet
              exact ⟨b, p5, c5, rfl, rfl, Lib.hid ⟨HBb.out, HEN.out, hHeld, hbs⟩⟩
            exact AllReadyH.nil
          exact AllReadyH.nil
        exact AllReadyH.nil
      case rest =>
      obtain ⟨q2, p', c', rfl, rfl, HC⟩ := hcut
      obtain ⟨y1, rfl⟩ : ∃ z : World, z = wc := ⟨_, rfl⟩
      have HTKx := Lib.hid (HTK.out y1 HC.out.2.2.1)
      have HGx := Lib.hid (range_keeps' HG.out HC.out.2.2.1)
      clear HTR HTK HG
      go_wp2_with (refine wpList_ldR rfl recM HGx.out _ rfl rfl ?_)
      refine HTKx.out.mono ?_
      rintro e y2 ⟨rfl, hb, hm⟩
      have HB := Lib.hid (show BoxAt y2 g b1 b2 (2 * j + 2) m' from hb)
      have HEN := Lib.hid (HC.out.2.1.box' (HH.out.box.keeps HC.out.2.2.1) hm)
      have hq2 : ∀ x, BFr g b1 b2 x → x < q2 := fun x hx => Nat.lt_of_lt_of_le (HH.out.box.lt x hx) HC.out.2.2.2
      have HX2 := Lib.hid (HC.out.1.mods hm (fun hx => by have := hq2 _ hx; omega))
      have HK2 := Lib.hid (hm.keeps (HH.out.keeps.trans HC.out.2.2.1) HH.out.ge)
      have HXX := Lib.hid ((HX.out.keeps HC.out.2.2.1).mods hm HH.out.qne)
      have HQQ := Lib.hid (show q < q2 from by have := HX.out.lt; have := HC.out.2.2.2; omega)
      have HFX := Lib.hid (And.intro HH.out.ge (And.intro HH.out.qne HH.out.qge))
      clear hb hm HTKx HGx HC HH HX hq2 hws
      have HSM := Lib.hid (fun w' (k : Keeps y2 w') => same20_any (k := 0) w' (HB.out.keeps k) (by omega) HST.out.1.rel HST.out.1.size (by have := HST.out.1.inv.b1; omega) (fun e he => i64wf (by have := HST.out.1.uid e he; omega)) (EntsAt.r (HEN.out.keeps k)))
      have x20 : y2.cell? ⟨q2, 0, none⟩ = some (.slice p' L'.length c') := by rw [HX2.out.cell]; rfl
      have x21 : y2.cell? ⟨q2, 1, none⟩ = some (.int .i64 m'.next) := by rw [HX2.out.cell]; rfl
      go_wp2_with fail
      refine (HSM.out _ (Keeps.refl _)).mono ?_
      rintro e y3 ⟨rfl, hk3⟩
      have HB := Lib.hid (HB.out.keeps hk3)
      have HEN := Lib.hid (HEN.out.keeps hk3)
      have HX2 := Lib.hid (HX2.out.keeps hk3)
      have HK2 := Lib.hid (HK2.out.trans hk3)
      have HXX := Lib.hid (HXX.out.keeps hk3)
      clear hk3 HSM x20 x21
      go_wp2_with (first
        | refine wpList_ld rfl rboxM HX2.out _ rfl rfl ?_
        | refine wpList_st (ds := #[.slice p' L'.length c', .int .i64 m'.next]) rfl rboxM HXX.out rfl (by simp [Value.oneCell']) _ _ rfl rfl rfl rfl ?_; intro w6 hB6 hM6)
      go_roundw
      case rel =>
        refine ⟨j + 1, p', c', m', L', by simp, by omega, Lib.hid ⟨?_, HST.out.1, HGD.out, ?_, hB6, hM6.keeps HK2.out (fun y hy => by have := HFX.out.2.2; omega), HFX.out.1, HFX.out.2.1, HFX.out.2.2⟩⟩
        · have hb := HB.out
          obtain ⟨D1, h1, h2⟩ := hb.ent
          obtain ⟨D2, h3, h4⟩ := hb.org
          exact (show BoxAt w6 g b1 b2 (2 * j + 2) m' from ⟨hb.blk.mods hM6 (fun e => HFX.out.2.1 (.inl e.symm)), ⟨D1, map_mods h1 hM6 (fun e => HFX.out.2.1 (.inr (.inl e.symm))), h2⟩, ⟨D2, map_mods h3 hM6 (fun e => HFX.out.2.1 (.inr (.inr e.symm))), h4⟩, hb.d1, hb.d2, hb.d12⟩).mono (by omega)
        · exact Frm.ownsRow_mods HEN.out hM6 (fun x hx hs => by subst hs; exact Frm.ownsRow_ne HEN.out HXX.out (by decide) hx)
      case measure =>
        simp only [RowKit.intOf]
        omega
    · obtain rfl : j = l.length := by omega
      have HS := HH
      clear HH hlt
      have hwu := HWF.out.1
      have hwo := HWF.out.2.1
      have hLl : L.length ≤ 80 := Nat.le_trans (Rel.len_le HS.out.box HS.out.st.rel) (by omega)
      obtain ⟨y0, rfl⟩ : ∃ z : World, z = wr := ⟨_, rfl⟩
      -- Get
      have HGT := Lib.hid (get_any y0 HS.out.box uid hwu)
      rw [HS.out.st.rel.ent] at HGT
      generalize hge : (at_ L uid).getD zeroEnt = E at *
      generalize hgi : (at_ L uid).isSome = is at *
      have HGE := Lib.hid (And.intro hge hgi)
      clear hge hgi
      unfold entA at HGT
      go_wp2_with fail
      refine HGT.out.mono ?_
      rintro e y1 ⟨rfl, hk⟩
      have HS := Lib.hid (HS.out.then hk)
      clear hk HGT
      go_upto_region 15 with fail
      generalize hW : World.alloc y1 _ = y2
      have hk2 : Keeps y1 y2 := by rw [← hW]; exact (Keeps.refl _).alloc _
      have HEB := Lib.hid (show Blk y2 y1.heap.size 85 (entA E) from by rw [← hW]; exact Blk.new _ _ _ rfl)
      have HEQ := Lib.hid (show W.heap.size ≤ y1.heap.size ∧ ∀ x, BFr g b1 b2 x → x < y1.heap.size from ⟨HS.out.keeps.size, HS.out.box.lt⟩)
      have HS := Lib.hid (HS.out.then hk2)
      clear hW hk2
      generalize y1.heap.size = qe at *
      -- Find
      have HFD := Lib.hid (rFind_any y2 (EntsAt.r HS.out.ents) m.next uid)
      go_wp2_with (refine wpList_ld rfl rboxM HS.out.x _ rfl rfl ?_)
      refine HFD.out.mono ?_
      rintro e y3 ⟨rfl, hk⟩
      have HS := Lib.hid (HS.out.then hk)
      have HEB := Lib.hid (HEB.out.keeps hk)
      clear hk HFD
      have m0 : y3.cell? ⟨q, 0, none⟩ = some (.slice p L.length c) := by rw [HS.out.x.cell]; rfl
      have e0 : y3.cell? ⟨qe, 0, none⟩ = some (.int .i64 E.uid) := by rw [HEB.out.cell]; rfl
      have e1 : y3.cell? ⟨qe, 1, none⟩ = some (.int .i64 E.time) := by rw [HEB.out.cell]; rfl
      have e2 : y3.cell? ⟨qe, 2, none⟩ = some (.int .i64 E.flags) := by rw [HEB.out.cell]; rfl
      have e3 : y3.cell? ⟨qe, 3, none⟩ = some (.int .i64 E.body) := by rw [HEB.out.cell]; rfl
      have e4 : y3.cell? ⟨qe, 4, none⟩ = some (.int .i64 E.size) := by rw [HEB.out.cell]; rfl
      have e5 : y3.cell? ⟨qe, 5, none⟩ = some (.int .i64 E.origin) := by rw [HEB.out.cell]; rfl
      have e6 : y3.cell? ⟨qe, 6, none⟩ = some (.bool E.gone) := by rw [HEB.out.cell]; rfl
      go_upto_region 16 with fail
      go_cut [15, 16, 64, 67, 68, 69, 72, 97] (fun _ _ _ _ _ _ _ t wx => t = .bool false ∧ Keeps y3 wx)
      case first =>
        rcases findL_spec L uid with ⟨hf, ha⟩ | ⟨i, hi, hf, ha, hu⟩
        · have hE : E = zeroEnt := by rw [← HGE.out.1, ha]; rfl
          have hI : is = false := by rw [← HGE.out.2, ha]; rfl
          rw [hE] at e0 e1 e2 e3 e4 e5 e6
          unfold zeroEnt at e0 e1 e2 e3 e4 e5 e6
          subst hI
          rw [hf]
          clear hE ha hf
          go_quiet (fail)
          go_wp2_with fail
          go_meet
          exact ⟨rfl, by repeat (first | exact Keeps.refl _ | refine Keeps.drewN ?_ _)⟩
        · have hE : E = L[i] := by rw [← HGE.out.1, ha]; rfl
          have hI : is = true := by rw [← HGE.out.2, ha]; rfl
          obtain ⟨ba, oa, cap, hv, hra⟩ := (EntsAt.r HS.out.ents).one hi
          rw [← hE] at hra
          clear hE
          simp only [Value.slice.injEq] at hv
          obtain ⟨rfl, -, rfl⟩ := hv
          obtain ⟨a0, a1, a2, a3, a4, a5, a6⟩ := ent7 hra
          have x1 : decide ((0 : Int) ≤ (i : Int)) = true := decide_eq_true (by omega)
          have x2 : (0 : Int) ≤ (i : Int) := by omega
          subst hI
          rw [hf]
          clear hra hu ha hf
          go_quiet (fail)
          go_wp2_with fail
          go_meet
          exact ⟨rfl, by repeat (first | exact Keeps.refl _ | refine Keeps.drewN ?_ _)⟩
      case rest =>
      obtain ⟨rfl, hkc⟩ := hcut
      obtain ⟨y4, rfl⟩ : ∃ z : World, z = wc := ⟨_, rfl⟩
      have HS := Lib.hid (HS.out.then hkc)
      clear hkc HEB m0 e0 e1 e2 e3 e4 e5 e6 HGE HEQ
      -- From
      have HFR := Lib.hid (from_e y4 HS.out.box og hwo (fun u hu => by
        rw [HS.out.st.rel.org] at hu
        unfold orgOf at hu
        cases hx : L.find? (fun e => decide (e.origin = og)) with
        | none => rw [hx] at hu; cases hu
        | some e =>
          rw [hx] at hu
          cases hu
          have hgd := HS.out.good e (List.mem_of_find?_eq_some hx)
          exact i64wf (x := e.uid) (by have := hgd.u1; have := hgd.u2; omega)))
      obtain ⟨fo, hfo⟩ : ∃ fo : Option Ent, fo = if 1 ≤ og then L.find? (fun e => decide (e.origin = og)) else none := ⟨_, rfl⟩
      have hfm : fromEnt m og = fo.getD zeroEnt ∧ (fromM m og).isSome = fo.isSome := by
        unfold fromEnt fromM
        rw [hfo]
        by_cases h1 : 1 ≤ og
        · rw [if_pos h1, if_pos h1, HS.out.st.rel.org]
          unfold orgOf
          cases hx : L.find? (fun e => decide (e.origin = og)) with
          | none => exact ⟨rfl, rfl⟩
          | some e =>
            refine ⟨?_, rfl⟩
            simp only [Option.map_some, HS.out.st.rel.ent]
            rw [at_mem HS.out.st.rel.asc e (List.mem_of_find?_eq_some hx)]
        · rw [if_neg h1, if_neg h1]; exact ⟨rfl, rfl⟩
      rw [hfm.1, hfm.2] at HFR
      have HFO := Lib.hid hfo
      clear hfm hfo
      generalize hFF : fo.getD zeroEnt = FE at *
      generalize hFI : fo.isSome = fi at *
      have HFE := Lib.hid (And.intro hFF hFI)
      clear hFF hFI
      unfold entA at HFR
      go_wp2_with fail
      refine HFR.out.mono ?_
      rintro e y5 ⟨rfl, hk⟩
      have HS := Lib.hid (HS.out.then hk)
      clear hk HFR
      go_upto_region 19 with fail
      generalize hW : World.alloc y5 _ = y6
      have hk6 : Keeps y5 y6 := by rw [← hW]; exact (Keeps.refl _).alloc _
      have HFB := Lib.hid (show Blk y6 y5.heap.size 85 (entA FE) from by rw [← hW]; exact Blk.new _ _ _ rfl)
      have HFQ := Lib.hid (show W.heap.size ≤ y5.heap.size ∧ (∀ x, BFr g b1 b2 x → x < y5.heap.size) ∧ q < y5.heap.size from ⟨HS.out.keeps.size, HS.out.box.lt, HS.out.x.lt⟩)
      have HS := Lib.hid (HS.out.then hk6)
      clear hW hk6
      generalize y5.heap.size = qf at *
      go_upto_region 20 with fail
      generalize hW : World.alloc y6 _ = y7
      have hk7 : Keeps y6 y7 := by rw [← hW]; exact (Keeps.refl _).alloc _
      have HWB := Lib.hid (show Blk y7 y6.heap.size 85 (entA zeroEnt) from by rw [← hW]; exact Blk.new _ _ _ rfl)
      have HWQ := Lib.hid (show qf < y6.heap.size ∧ (∀ x, BFr g b1 b2 x → x < y6.heap.size) ∧ q < y6.heap.size from ⟨HFB.out.lt, HS.out.box.lt, HS.out.x.lt⟩)
      have HLT := Lib.hid (fun x hx => Frm.ownsRow_lt HS.out.ents x hx)
      have HS := Lib.hid (HS.out.then hk7)
      have HFB := Lib.hid (HFB.out.keeps hk7)
      clear hW hk7
      generalize y6.heap.size = qw at *
      have HEO := Lib.hid (EntsAt.r HS.out.ents)
      have HSM : Hid (∀ wr, Mods (· = qw) y7 wr → TkAt W wr g b1 b2 q l.length p c m L ∧ Blk wr qf 85 (entA FE) ∧ EntR wr (.slice p L.length c) L) := Lib.hid (fun wr hM => by
        have hqn : ∀ x, BFr g b1 b2 x → ¬ x = qw := fun x hx e => by have := HWQ.out.2.1 x hx; omega
        have hb := HS.out.box
        obtain ⟨D1, h1, h2⟩ := hb.ent
        obtain ⟨D2, h3, h4⟩ := hb.org
        have he : EntsAt wr W.heap.size (.slice p L.length c) L := Frm.ownsRow_mods HS.out.ents hM (fun x hx hs => by
          have := HLT.out x hx
          omega)
        exact ⟨⟨⟨hb.blk.mods hM (hqn _ (.inl rfl)), ⟨D1, map_mods h1 hM (hqn _ (.inr (.inl rfl))), h2⟩, ⟨D2, map_mods h3 hM (hqn _ (.inr (.inr rfl))), h4⟩, hb.d1, hb.d2, hb.d12⟩, HS.out.st, HS.out.good, he, HS.out.x.mods hM (by have := HWQ.out.2.2; omega), hM.keeps HS.out.keeps (fun x hx => by have := HWQ.out.1; have := HFQ.out.1; omega), HS.out.ge, HS.out.qne, HS.out.qge⟩, HFB.out.mods hM (by have := HWQ.out.1; omega), he.r⟩)
      have hog : 1 ≤ og ∨ og < 1 := by omega
      go_wp2_with fail
      go_loopw [20, 22] (fun fd i wr => ∃ j : Nat, i = .int .i64 (j : Int) ∧ j ≤ L.length ∧ fd = .bool (if 1 ≤ og then (L.take j).find? (fun e => decide (e.origin = og)) else none).isSome ∧ Hid (Mods (· = qw) y7 wr ∧ Blk wr qw 85 (entA ((if 1 ≤ og then (L.take j).find? (fun e => decide (e.origin = og)) else none).getD zeroEnt)))) (fun _ i _ => L.length - (RowKit.intOf i).toNat)
      case atStart => exact ⟨0, rfl, Nat.zero_le _, by simp, Lib.hid ⟨Mods.refl _ _, by simpa using HWB.out⟩⟩
      case round =>
        obtain ⟨j, rfl, hj, rfl, HH⟩ := hrel
        obtain ⟨y8, rfl⟩ : ∃ z : World, z = wr := ⟨_, rfl⟩
        have HT := Lib.hid (HSM.out y8 HH.out.1)
        have m0 : y8.cell? ⟨q, 0, none⟩ = some (.slice p L.length c) := by rw [HT.out.1.x.cell]; rfl
        by_cases hlt : j < L.length
        · obtain ⟨ba, oa, cap, hv, hra⟩ := HT.out.2.2.one hlt
          simp only [Value.slice.injEq] at hv
          obtain ⟨rfl, -, rfl⟩ := hv
          have HN := Lib.hid (show (L.take (j + 1)).find? (fun e => decide (e.origin = og)) = ((L.take j).find? (fun e => decide (e.origin = og))).or (if L[j].origin = og then some L[j] else none) from by
            rw [List.take_succ_eq_append_getElem hlt, List.find?_append]
            congr 1
            by_cases h : L[j].origin = og <;> simp [h])
          obtain ⟨-, -, -, -, -, a5, -⟩ := ent7 hra
          have HR := Lib.hid hra
          clear hra
          generalize L[j] = A at *
          generalize (L.take j).find? (fun e => decide (e.origin = og)) = pf at *
          have hcase : ((if 1 ≤ og then pf else none).isSome = true ∧ (if 1 ≤ og then pf.or (if A.origin = og then some A else none) else none) = (if 1 ≤ og then pf else none)) ∨ ((if 1 ≤ og then pf else none) = none ∧ og < 1 ∧ (if 1 ≤ og then pf.or (if A.origin = og then some A else none) else none) = none) ∨ ((if 1 ≤ og then pf else none) = none ∧ 1 ≤ og ∧ A.origin ≠ og ∧ (if 1 ≤ og then pf.or (if A.origin = og then some A else none) else none) = none) ∨ ((if 1 ≤ og then pf else none) = none ∧ 1 ≤ og ∧ A.origin = og ∧ (if 1 ≤ og then pf.or (if A.origin = og then some A else none) else none) = some A) := by
            rcases hog with h1 | h1
            · rw [if_pos h1, if_pos h1]
              cases pf with
              | some a => exact .inl ⟨rfl, rfl⟩
              | none =>
                by_cases h : A.origin = og
                · exact .inr (.inr (.inr ⟨rfl, h1, h, by simp [h]⟩))
                · exact .inr (.inr (.inl ⟨rfl, h1, h, by simp [h]⟩))
            · rw [if_neg (by omega), if_neg (by omega)]
              exact .inr (.inl ⟨rfl, h1, rfl⟩)
          have HNX : Hid ((if 1 ≤ og then (L.take (j + 1)).find? (fun e => decide (e.origin = og)) else none) = (if 1 ≤ og then pf.or (if A.origin = og then some A else none) else none)) := Lib.hid (by rw [HN.out])
          clear HN
          generalize (if 1 ≤ og then pf.or (if A.origin = og then some A else none) else none) = nx at *
          generalize (if 1 ≤ og then pf else none) = cu at *
          rcases hcase with ⟨hc1, hc2⟩ | ⟨hc1, hc3, hc2⟩ | ⟨hc1, hc3, hc4, hc2⟩ | ⟨hc1, hc3, hc4, hc2⟩
          · rw [hc1]
            rw [hc2] at HNX
            have HC1 := Lib.hid hc1
            clear hc1 hc2
            go_wp2_with fail
            go_roundw
            case rel => exact ⟨j + 1, by simp, by omega, by rw [HNX.out, HC1.out], Lib.hid (by rw [HNX.out]; exact HH.out)⟩
            case measure =>
              simp only [RowKit.intOf]
              omega
          · have x1 : decide (0 < og) = false := decide_eq_false (by omega)
            rw [hc2] at HNX
            subst hc1
            clear hc2
            go_wp2_with fail
            go_roundw
            case rel => exact ⟨j + 1, by simp, by omega, by rw [HNX.out], Lib.hid (by rw [HNX.out]; exact HH.out)⟩
            case measure =>
              simp only [RowKit.intOf]
              omega
          · have x1 : decide (0 < og) = true := decide_eq_true (by omega)
            have x2 : (A.origin == og) = false := by simp [hc4]
            rw [hc2] at HNX
            subst hc1
            clear hc2 hc4
            go_wp2_with fail
            go_roundw
            case rel => exact ⟨j + 1, by simp, by omega, by rw [HNX.out], Lib.hid (by rw [HNX.out]; exact HH.out)⟩
            case measure =>
              simp only [RowKit.intOf]
              omega
          · have x1 : decide (0 < og) = true := decide_eq_true (by omega)
            have x2 : (A.origin == og) = true := by simp [hc4]
            rw [hc2] at HNX
            subst hc1
            clear hc2 hc4
            go_wp2_with (first
              | refine wpList_ldR rfl entM HR.out _ rfl rfl ?_
              | refine wpList_st (ds := entA A) rfl entM HH.out.2 rfl (entA_one _) _ _ rfl rfl rfl rfl ?_; intro w9 hB9 hM9)
            go_roundw
            case rel => exact ⟨j + 1, by simp, by omega, by rw [HNX.out]; rfl, Lib.hid ⟨HH.out.1.trans hM9 (fun x hx _ => hx), by rw [HNX.out]; exact hB9⟩⟩
            case measure =>
              simp only [RowKit.intOf]
              omega
        · obtain rfl : j = L.length := by omega
          rw [List.take_length] at HH ⊢
          rw [← HFO.out] at HH ⊢
          rw [HFE.out.1] at HH
          rw [HFE.out.2]
          have HW := Lib.hid HH.out.2
          clear HH hlt HWB
          have hfe : (0 : Nat) ≤ 9 := by decide
          obtain ⟨B, hB⟩ : ∃ B, B = (filt false L).map (·.body) := ⟨_, rfl⟩
          have HBB := Lib.hid hB
          have hmB : ∀ x, x ∈ B ↔ ∃ k, ∃ h : k < L.length, L[k].body = x ∧ L[k].gone = false := fun x => by
            rw [hB, List.mem_map]
            constructor
            · rintro ⟨e, he, rfl⟩
              obtain ⟨h1, h2⟩ := List.mem_filter.1 he
              obtain ⟨k, hk, rfl⟩ := List.mem_iff_getElem.1 h1
              exact ⟨k, hk, rfl, by simpa using h2⟩
            · rintro ⟨k, hk, rfl, h2⟩
              exact ⟨L[k], List.mem_filter.2 ⟨List.getElem_mem hk, by simp [h2]⟩, rfl⟩
          have HMB := Lib.hid hmB
          clear hB hmB
          have hsz8 : W.heap.size ≤ y8.heap.size := HT.out.1.keeps.size
          go_wp2_with fail
          go_loopw [21, 23] (fun bv bi wr => ∃ (n : Nat) (p' : Option Addr) (c' : Nat), bi = .int .i64 ((n : Int) + 1) ∧ n ≤ 9 ∧ bv = .slice p' (bodL B n).length c' ∧ Hid (Keeps y8 wr ∧ Own wr y8.heap.size 3 (.slice p' (bodL B n).length c') ((bodL B n).map encZ))) (fun _ bi _ => 10 - (RowKit.intOf bi).toNat)
          case atStart => exact ⟨0, none, 0, by simp, by decide, rfl, Lib.hid ⟨Keeps.refl _, Own.nil _ _ _⟩⟩
          case round =>
            obtain ⟨n, p', c', rfl, hn, rfl, HQ⟩ := hrel
            obtain ⟨y9, rfl⟩ : ∃ z : World, z = wr := ⟨_, rfl⟩
            have hbl := bodL_len B n
            by_cases hn9 : n < 9
            · have x1 : decide ((n : Int) + 1 ≤ 9) = true := decide_eq_true (by omega)
              have x1' : (n : Int) + 1 ≤ 9 := by omega
              have HBN := Lib.hid (bodL_next B n)
              have hw9 : IntKind.i64.wrap ((n : Int) + 1 + 1) = (n : Int) + 1 + 1 := by rw [IntKind.wrap_i64]; omega
              have m0 : y9.cell? ⟨q, 0, none⟩ = some (.slice p L.length c) := by rw [(HT.out.1.x.keeps HQ.out.1).cell]; rfl
              have HEN := Lib.hid (HT.out.2.2.keeps HQ.out.1)
              go_upto_block 5 with fail
              go_cut [21, 24] (fun bv _ wx => ∃ (p2 : Option Addr) (c2 : Nat), bv = .slice p2 (bodL B (n + 1)).length c2 ∧ Hid (Keeps y8 wx ∧ Own wx y8.heap.size 3 (.slice p2 (bodL B (n + 1)).length c2) ((bodL B (n + 1)).map encZ)))
              case first =>
                go_wp2_with fail
                go_loopw [21, 24] (fun bv i wr => ∃ k : Nat, i = .int .i64 (k : Int) ∧ k ≤ L.length ∧ bv = .slice p' (bodL B n).length c' ∧ Hid (wr = y9 ∧ ∀ k' (_ : k' < k) (h : k' < L.length), ¬ (L[k'].body = (n : Int) + 1 ∧ L[k'].gone = false))) (fun _ i _ => L.length - (RowKit.intOf i).toNat)
                case atStart => exact ⟨0, rfl, Nat.zero_le _, rfl, Lib.hid ⟨rfl, fun k' h => by omega⟩⟩
                case round =>
                  obtain ⟨k, rfl, hk, rfl, HKK⟩ := hrel
                  obtain ⟨rfl, hno⟩ := HKK.out
                  have HNO := Lib.hid hno
                  clear HKK hno
                  by_cases hkl : k < L.length
                  · obtain ⟨ba, oa, cap, hv, hra⟩ := HEN.out.one hkl
                    simp only [Value.slice.injEq] at hv
                    obtain ⟨rfl, -, rfl⟩ := hv
                    obtain ⟨-, -, -, a3, -, -, a6⟩ := ent7 hra
                    clear hra
                    have hcs : (L[k].body = (n : Int) + 1 ∧ L[k].gone = false) ∨ L[k].body ≠ (n : Int) + 1 ∨ (L[k].body = (n : Int) + 1 ∧ L[k].gone = true) := by
                      by_cases h1 : L[k].body = (n : Int) + 1
                      · cases h2 : L[k].gone
                        · exact .inl ⟨h1, rfl⟩
                        · exact .inr (.inr ⟨h1, rfl⟩)
                      · exact .inr (.inl h1)
                    have HB1 : Hid (L[k].body = (n : Int) + 1 ∧ L[k].gone = false → bodL B (n + 1) = bodL B n ++ [(n : Int) + 1]) := Lib.hid (fun h => by rw [HBN.out, if_pos ((HMB.out _).2 ⟨k, hkl, h.1, h.2⟩)])
                    have HB2 : Hid (¬ (L[k].body = (n : Int) + 1 ∧ L[k].gone = false) → ∀ k' (_ : k' < k + 1) (h : k' < L.length), ¬ (L[k'].body = (n : Int) + 1 ∧ L[k'].gone = false)) := Lib.hid (fun hx k' hk' h => by
                      by_cases hkk : k' = k
                      · subst hkk; exact hx
                      · exact HNO.out k' (by omega) h)
                    generalize L[k] = A at *
                    rcases hcs with ⟨h1, h2⟩ | h1 | ⟨h1, h2⟩
                    · have HBX := Lib.hid (HB1.out ⟨h1, h2⟩)
                      have x2 : (A.body == (n : Int) + 1) = true := by simp [h1]
                      rw [h2] at a6
                      have hsz9 : y8.heap.size ≤ wr.heap.size := HQ.out.1.size
                      clear HB1 HB2 HBN h1 h2
                      go_wp2_with (at_builtin; refine wpList_app1 (base := y8.heap.size) intok rfl _ _ rfl (.slice p' (bodL B n).length c') (.slice (some ⟨wr.heap.size, 0, none⟩) 1 1) ((bodL B n).map encZ) [.int .i64 ((n : Int) + 1)] rfl rfl (HQ.out.2.keeps ((Keeps.refl _).alloc _)) (row_one rfl) (by simp [Value.oneCell']) (by simp; omega) (by omega) (by rw [Frm.alloc_size]; omega) ?_; intro v' w9 ho9 hg9 hf9; obtain ⟨p9, c9, rfl, -, -⟩ := ho9.row.form)
                      go_meet
                      refine ⟨p9, c9, by rw [HBX.out]; simp, Lib.hid ⟨(HQ.out.1.alloc _).grown hg9 (fun k hk => ?_), ?_⟩⟩
                      · exact (HQ.out.2.base k hk)
                      · rw [HBX.out]
                        simpa using ho9
                    · have x2 : (A.body == (n : Int) + 1) = false := by simp [h1]
                      have HBX := Lib.hid (HB2.out (fun h => h1 h.1))
                      clear HB1 HB2 h1
                      go_wp2_with fail
                      go_roundw
                      case rel => exact ⟨k + 1, by simp, by omega, rfl, Lib.hid ⟨trivial, HBX.out⟩⟩
                      case measure =>
                        simp only [RowKit.intOf]
                        omega
                    · have x2 : (A.body == (n : Int) + 1) = true := by simp [h1]
                      have HBX := Lib.hid (HB2.out (fun h => by rw [h2] at h; cases h.2))
                      rw [h2] at a6
                      clear HB1 HB2 h1 h2
                      go_wp2_with fail
                      go_roundw
                      case rel => exact ⟨k + 1, by simp, by omega, rfl, Lib.hid ⟨trivial, HBX.out⟩⟩
                      case measure =>
                        simp only [RowKit.intOf]
                        omega
                  · have HBX : Hid (bodL B (n + 1) = bodL B n) := Lib.hid (by
                      rw [HBN.out, if_neg (fun h => ?_), List.append_nil]
                      obtain ⟨k', hk', h1, h2⟩ := (HMB.out _).1 h
                      exact HNO.out k' (by omega) hk' ⟨h1, h2⟩)
                    go_wp2_with fail
                    go_meet
                    exact ⟨p', c', by rw [HBX.out], Lib.hid (by rw [HBX.out]; exact HQ.out)⟩
              case rest =>
              obtain ⟨p2, c2, rfl, HQ2⟩ := hcut
              go_wp2_with fail
              go_roundw
              case rel => exact ⟨n + 1, p2, c2, by simp, by omega, rfl, HQ2⟩
              case measure =>
                simp only [RowKit.intOf]
                omega
            · obtain rfl : n = 9 := by omega
              have HBY := Lib.hid (bodies_any y9 (HT.out.1.box.keeps HQ.out.1) (by omega) HT.out.1.st.rel (fun e he => i64wf (by have := HT.out.1.st.uid e he; omega)) (fun e he => i64wf (by have hg := HT.out.1.good e he; have := hg.b1; have := hg.b2; omega)))
              go_wp2_with fail
              refine HBY.out.mono ?_
              rintro e y10 ⟨v25, bl, rfl, hob, hba, hbm, hk10⟩
              obtain ⟨p25, c25, rfl, -, -⟩ := hob.row.form
              rw [List.length_map] at hob ⊢
              obtain ⟨tt, htt⟩ := bodL_prefix (B := B) hba (fun x => by rw [hbm, HBB.out]) (fun x hx => by
                obtain ⟨k, hk, rfl, -⟩ := (HMB.out x).1 hx
                exact (HT.out.1.good _ (List.getElem_mem hk)).b1) 9
              have HBA := Lib.hid hba
              have HTT := Lib.hid htt
              have HOB := Lib.hid hob
              have HOD := Lib.hid (HQ.out.2.keeps hk10)
              have HK10 := Lib.hid (HQ.out.1.trans hk10)
              have hbl2 : bl.length = (bodL B 9).length + tt.length := by rw [htt]; simp
              have hblz : bl.length ≤ 9223372036854775807 := by
                obtain ⟨p9, c9, h1, h2, h3⟩ := hob.row.form
                rw [List.length_map] at h2
                have : (9223372036854775807 : Nat) = maxLen := rfl
                omega
              clear hba htt hob hk10 HBY hbm
              go_wp2_with fail
              go_loopw [26] (fun i wr => ∃ j : Nat, i = .int .i64 (j : Int) ∧ j ≤ bl.length ∧ Hid (Keeps y10 wr)) (fun i _ => bl.length - (RowKit.intOf i).toNat)
              case atStart => exact ⟨0, rfl, Nat.zero_le _, Lib.hid (Keeps.refl _)⟩
              case round =>
                obtain ⟨j, rfl, hj, HY⟩ := hrel
                obtain ⟨y11, rfl⟩ : ∃ z : World, z = wr := ⟨_, rfl⟩
                by_cases hlt : j < bl.length
                · obtain ⟨g25, c25', hv, -, -, -⟩ := Own.form HOB.out (by simp; omega)
                  simp only [List.length_map, Value.slice.injEq] at hv
                  obtain ⟨rfl, -, rfl⟩ := hv
                  have a0 : y11.cell? ⟨g25, j, none⟩ = some (.int .i64 bl[j]) := Own.cellAt (HOB.out.keeps HY.out) j _ (by simp [List.getElem?_eq_getElem hlt])
                  have HPR : Hid (∀ hp : 0 < j, y11.cell? ⟨g25, j - 1, none⟩ = some (.int .i64 bl[j - 1]) ∧ bl[j - 1] < bl[j]) := Lib.hid (fun hp => ⟨Own.cellAt (HOB.out.keeps HY.out) (j - 1) _ (by simp [List.getElem?_eq_getElem (show j - 1 < bl.length by omega)]), List.pairwise_iff_getElem.1 HBA.out (j - 1) j (by omega) hlt (by omega)⟩)
                  have HBD : Hid (∀ hd : j < (bodL B 9).length, ∃ gd, p' = some ⟨gd, 0, none⟩ ∧ y11.cell? ⟨gd, j, none⟩ = some (.int .i64 bl[j])) := Lib.hid (fun hd => by
                    obtain ⟨gd, cd, hv, -, -, -⟩ := Own.form HOD.out (by simp; omega)
                    simp only [List.length_map, Value.slice.injEq] at hv
                    refine ⟨gd, hv.1, ?_⟩
                    have h := HOD.out.keeps HY.out
                    rw [hv.1] at h
                    refine Own.cellAt h j _ ?_
                    have : bl[j] = (bodL B 9)[j] := by
                      have h2 : bl[j]? = (bodL B 9 ++ tt)[j]? := by rw [← HTT.out]
                      rw [List.getElem?_append_left hd, List.getElem?_eq_getElem hlt, List.getElem?_eq_getElem hd] at h2
                      exact Option.some.inj h2
                    rw [this]
                    simp [List.getElem?_eq_getElem hd])
                  generalize bl[j] = bj at *
                  generalize (bodL B 9).length = bdl at *
                  go_upto_region 40 with fail
                  go_cut [203] (fun t wx => t = .bool false ∧ Keeps y11 wx)
                  case first =>
                    have hjc : (∃ hd : j < bdl, True) ∨ ¬ j < bdl := by
                      by_cases h : j < bdl
                      · exact .inl ⟨h, trivial⟩
                      · exact .inr h
                    by_cases hj0 : j = 0
                    · have e0 : decide ((0 : Int) < (j : Int)) = false := decide_eq_false (by omega)
                      have e0' : decide (0 < j) = false := decide_eq_false (by omega)
                      clear hj0
                      rcases hjc with ⟨hd, -⟩ | hd
                      · obtain ⟨gd, hgd, d0⟩ := HBD.out hd
                        have e1 : decide ((j : Int) < (bdl : Int)) = true := decide_eq_true (by omega)
                        have e1' : decide (j < bdl) = true := decide_eq_true hd
                        subst hgd
                        go_quiet (fail)
                        go_wp2_with fail
                        go_meet
                        exact ⟨rfl, by repeat (first | exact Keeps.refl _ | refine Keeps.drewN ?_ _)⟩
                      · have e1 : decide ((j : Int) < (bdl : Int)) = false := decide_eq_false (by omega)
                        have e1' : decide (j < bdl) = false := decide_eq_false hd
                        go_quiet (fail)
                        go_wp2_with fail
                        go_meet
                        exact ⟨rfl, by repeat (first | exact Keeps.refl _ | refine Keeps.drewN ?_ _)⟩
                    · have e0 : decide ((0 : Int) < (j : Int)) = true := decide_eq_true (by omega)
                      have e0' : decide (0 < j) = true := decide_eq_true (by omega)
                      obtain ⟨q0, hq0⟩ := HPR.out (by omega)
                      generalize bl[j - 1] = bp at *
                      have e2 : decide (bj ≤ bp) = false := decide_eq_false (by omega)
                      have x1 : IntKind.i64.wrap ((j : Int) - 1) = (j : Int) - 1 := by rw [IntKind.wrap_i64]; omega
                      have x2 : ((j : Int) - 1).toNat = j - 1 := by omega
                      have x3 : 0 ≤ (j : Int) - 1 := by omega
                      have x4 : (j : Int) - 1 < (bl.length : Int) := by omega
                      have x5 : j - 1 < bl.length := by omega
                      have x6 : (1 : Int) ≤ (j : Int) := by omega
                      have x7 : 1 ≤ j := by omega
                      clear hj0
                      rcases hjc with ⟨hd, -⟩ | hd
                      · obtain ⟨gd, hgd, d0⟩ := HBD.out hd
                        have e1 : decide ((j : Int) < (bdl : Int)) = true := decide_eq_true (by omega)
                        have e1' : decide (j < bdl) = true := decide_eq_true hd
                        subst hgd
                        go_quiet (fail)
                        go_wp2_with fail
                        go_meet
                        exact ⟨rfl, by repeat (first | exact Keeps.refl _ | refine Keeps.drewN ?_ _)⟩
                      · have e1 : decide ((j : Int) < (bdl : Int)) = false := decide_eq_false (by omega)
                        have e1' : decide (j < bdl) = false := decide_eq_false hd
                        go_quiet (fail)
                        go_wp2_with fail
                        go_meet
                        exact ⟨rfl, by repeat (first | exact Keeps.refl _ | refine Keeps.drewN ?_ _)⟩
                  case rest =>
                  obtain ⟨rfl, hkc⟩ := hcut
                  go_wp2_with fail
                  go_roundw
                  case rel => exact ⟨j + 1, by simp, by omega, Lib.hid (HY.out.trans hkc)⟩
                  case measure =>
                    simp only [RowKit.intOf]
                    omega
                · have HKY := Lib.hid (HK10.out.trans HY.out)
                  have HT2 := Lib.hid (HT.out.1.then HKY.out)
                  have HF1 := Lib.hid (HT.out.2.1.keeps HKY.out)
                  have HW1 := Lib.hid (HW.out.keeps HKY.out)
                  have HRS := Lib.hid (raise_any y11 HT2.out.box ra)
                  clear HT HW HOB HOD HK10 HTT HBA HQ HY HEO HSM HFB
                  go_wp2_with fail
                  refine HRS.out.mono ?_
                  rintro e y12 ⟨hb12, hm12, rfl⟩
                  have hbf : ∀ z, BFr g b1 b2 z → z < qf ∧ z < qw := fun z hz => ⟨HFQ.out.2.1 z hz, HWQ.out.2.1 z hz⟩
                  have HBX := Lib.hid hb12
                  have HEX := Lib.hid (HT2.out.ents.box' HT2.out.box hm12)
                  have HX12 := Lib.hid (HT2.out.x.mods hm12 HT2.out.qne)
                  have HF2 := Lib.hid (show Blk y12 qf 85 #[.int .i64 FE.uid, .int .i64 FE.time, .int .i64 FE.flags, .int .i64 FE.body, .int .i64 FE.size, .int .i64 FE.origin, .bool FE.gone] from HF1.out.mods hm12 (fun hx => by have := hbf _ hx; omega))
                  have HW2 := Lib.hid (show Blk y12 qw 85 #[.int .i64 FE.uid, .int .i64 FE.time, .int .i64 FE.flags, .int .i64 FE.body, .int .i64 FE.size, .int .i64 FE.origin, .bool FE.gone] from HW1.out.mods hm12 (fun hx => by have := hbf _ hx; omega))
                  have HK12 := Lib.hid (hm12.keeps HT2.out.keeps HT2.out.ge)
                  have HRL := Lib.hid (show Rel (raiseM m ra) L from by
                    have h := HT2.out.st.rel
                    unfold raiseM
                    split
                    · exact ⟨h.asc, h.ent, h.org, h.ub, h.uc⟩
                    · exact h)
                  have HSZ := Lib.hid HT2.out.st.size
                  have HUBB := Lib.hid (show (raiseM m ra).ub ≤ 4611686018427387904 from by
                    have := HT2.out.st.inv.b1
                    unfold raiseM
                    split
                    · show m.ub ≤ _; omega
                    · omega)
                  have HWFU := Lib.hid (show ∀ e ∈ L, (Lit.int .i64 e.uid).wf = true from fun e he => i64wf (by have := HT2.out.st.uid e he; omega))
                  have HQG := Lib.hid (And.intro HT2.out.qge (And.intro HT2.out.qne hbf))
                  have x9 : decide (((bodL B 9).length : Int) ≤ (bl.length : Int)) = true := decide_eq_true (by omega)
                  have x9' : decide ((bodL B 9).length ≤ bl.length) = true := decide_eq_true (by omega)
                  have m1 : y12.cell? ⟨q, 1, none⟩ = some (.int .i64 m.next) := by rw [HX12.out.cell]; rfl
                  have z1 : y12.frozen? ⟨q, 1, none⟩ = false := HX12.out.frozen _
                  have HRN : Hid ((raiseM m ra).next = if ra ≤ 2147483649 ∧ m.next < ra then ra else m.next) := Lib.hid (by
                    unfold raiseM
                    by_cases h1 : ra ≤ 2147483649
                    · rw [if_pos h1]
                      show max m.next ra = _
                      by_cases h2 : m.next < ra
                      · rw [if_pos ⟨h1, h2⟩]; omega
                      · rw [if_neg (fun h => h2 h.2)]; omega
                    · rw [if_neg h1, if_neg (fun h => h1 h.1)])
                  clear hb12 hm12 HRS HF1 HW1 HT2 hbf
                  generalize (bodL B 9).length = bdl at *
                  have hcc : (m.next < ra ∧ ra ≤ 2147483649) ∨ (m.next < ra ∧ 2147483649 < ra) ∨ ra ≤ m.next := by omega
                  rcases hcc with ⟨hr1, hr2⟩ | ⟨hr1, hr2⟩ | hr1
                  · have r1 : decide (m.next < ra) = true := decide_eq_true hr1
                    have r2 : decide (ra ≤ 2147483649) = true := decide_eq_true hr2
                    rw [if_pos ⟨hr2, hr1⟩] at HRN
                    clear hr1 hr2
                    go_upto_region 45 with fail
                    generalize hWz : World.setCell y12 ⟨q, 1, none⟩ _ = yZ
                    have HXX := Lib.hid (show Blk yZ q 92 #[.slice p L.length c, .int .i64 (raiseM m ra).next] from by rw [← hWz, HRN.out]; exact HX12.out.set_ 1 _)
                    have hMz : Mods (· = q) y12 yZ := by rw [← hWz]; exact (Mods.refl (· = q) y12).setCell (p := ⟨q, 1, none⟩) (fun _ => rfl) _
                    have HKZ := Lib.hid (hMz.keeps HK12.out (fun x hx => by have := HQG.out.1; omega))
                    have HEX := Lib.hid (show EntsAt yZ W.heap.size (.slice p L.length c) L from Frm.ownsRow_mods HEX.out hMz (fun x hx hs => by subst hs; exact Frm.ownsRow_ne HEX.out HX12.out (by decide) hx))
                    have HF2 := Lib.hid (HF2.out.mods hMz (by have := HFQ.out.2.2; omega))
                    have HW2 := Lib.hid (HW2.out.mods hMz (by have := HWQ.out.2.2; omega))
                    have HBX := Lib.hid (show BoxAt yZ g b1 b2 (2 * l.length) (raiseM m ra) from by
                      have hb := HBX.out
                      obtain ⟨D1, h1, h2⟩ := hb.ent
                      obtain ⟨D2, h3, h4⟩ := hb.org
                      exact ⟨hb.blk.mods hMz (fun e => HQG.out.2.1 (.inl e.symm)), ⟨D1, map_mods h1 hMz (fun e => HQG.out.2.1 (.inr (.inl e.symm))), h2⟩, ⟨D2, map_mods h3 hMz (fun e => HQG.out.2.1 (.inr (.inr e.symm))), h4⟩, hb.d1, hb.d2, hb.d12⟩)
                    clear hWz hMz m1 z1 HX12 r1 r2 HRN
                    have HSM2 := Lib.hid (fun w' (k : Keeps yZ w') => same20_any (k := 0) w' (HBX.out.keeps k) (by omega) HRL.out HSZ.out HUBB.out HWFU.out ((EntsAt.r HEX.out).keeps k))
                    have m0 : yZ.cell? ⟨q, 0, none⟩ = some (.slice p L.length c) := by rw [HXX.out.cell]; rfl
                    have m1 : yZ.cell? ⟨q, 1, none⟩ = some (.int .i64 (raiseM m ra).next) := by rw [HXX.out.cell]; rfl
                    generalize (raiseM m ra).next = nxx at *
                    go_wp2_with (first
                      | refine wpList_ld rfl entM HF2.out _ rfl rfl ?_
                      | refine wpList_ld rfl entM HW2.out _ rfl rfl ?_)
                    refine (HSM2.out _ (Keeps.refl _)).mono ?_
                    rintro e yE ⟨rfl, hkE⟩
                    go_wp2_with fail
                    go_ret
                    exact ⟨rfl, HKZ.out.trans hkE⟩
                  · have r1 : decide (m.next < ra) = true := decide_eq_true hr1
                    have r2 : decide (ra ≤ 2147483649) = false := decide_eq_false (by omega)
                    rw [if_neg (by omega)] at HRN
                    have HXX := Lib.hid (show Blk y12 q 92 #[.slice p L.length c, .int .i64 (raiseM m ra).next] from by rw [HRN.out]; exact HX12.out)
                    have HKZ := HK12
                    go_upto_region 45 with fail
                    obtain ⟨yZ, rfl⟩ : ∃ z : World, z = y12 := ⟨_, rfl⟩
                    clear m1 z1 HX12 r1 r2 HRN hr1 hr2
                    have HSM2 := Lib.hid (fun w' (k : Keeps yZ w') => same20_any (k := 0) w' (HBX.out.keeps k) (by omega) HRL.out HSZ.out HUBB.out HWFU.out ((EntsAt.r HEX.out).keeps k))
                    have m0 : yZ.cell? ⟨q, 0, none⟩ = some (.slice p L.length c) := by rw [HXX.out.cell]; rfl
                    have m1 : yZ.cell? ⟨q, 1, none⟩ = some (.int .i64 (raiseM m ra).next) := by rw [HXX.out.cell]; rfl
                    generalize (raiseM m ra).next = nxx at *
                    go_wp2_with (first
                      | refine wpList_ld rfl entM HF2.out _ rfl rfl ?_
                      | refine wpList_ld rfl entM HW2.out _ rfl rfl ?_)
                    refine (HSM2.out _ (Keeps.refl _)).mono ?_
                    rintro e yE ⟨rfl, hkE⟩
                    go_wp2_with fail
                    go_ret
                    exact ⟨rfl, HKZ.out.trans hkE⟩
                  · have r1 : decide (m.next < ra) = false := decide_eq_false (by omega)
                    rw [if_neg (by omega)] at HRN
                    have HXX := Lib.hid (show Blk y12 q 92 #[.slice p L.length c, .int .i64 (raiseM m ra).next] from by rw [HRN.out]; exact HX12.out)
                    have HKZ := HK12
                    go_upto_region 45 with fail
                    obtain ⟨yZ, rfl⟩ : ∃ z : World, z = y12 := ⟨_, rfl⟩
                    clear m1 z1 HX12 r1 HRN hr1
                    have HSM2 := Lib.hid (fun w' (k : Keeps yZ w') => same20_any (k := 0) w' (HBX.out.keeps k) (by omega) HRL.out HSZ.out HUBB.out HWFU.out ((EntsAt.r HEX.out).keeps k))
                    have m0 : yZ.cell? ⟨q, 0, none⟩ = some (.slice p L.length c) := by rw [HXX.out.cell]; rfl
                    have m1 : yZ.cell? ⟨q, 1, none⟩ = some (.int .i64 (raiseM m ra).next) := by rw [HXX.out.cell]; rfl
                    generalize (raiseM m ra).next = nxx at *
                    go_wp2_with (first
                      | refine wpList_ld rfl entM HF2.out _ rfl rfl ?_
                      | refine wpList_ld rfl entM HW2.out _ rfl rfl ?_)
                    refine (HSM2.out _ (Keeps.refl _)).mono ?_
                    rintro e yE ⟨rfl, hkE⟩
                    go_wp2_with fail
                    go_ret
                    exact ⟨rfl, HKZ.out.trans hkE⟩
end Mbx
end Go.Proofs.Ytohchhgheeolpaa
