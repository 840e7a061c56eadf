/- The law MboxMakes, walked. -/
import Derived.Test.YtekkjhjaacjhnaaMboxAwake
import Derived.Test.YtekkjhjaacjhnaaRecRef2
namespace Go.Proofs.Ytekkjhjaacjhnaa
open Go.RowKit
namespace Mbx
open Rcd Go.Maps

def recs (l : List RecX) : List Rec := l.map (·.1)
theorem recs_next (l : List RecX) {j : Nat} (h : j < l.length) : all new (recs (l.take (j + 1))) = (take (all new (recs (l.take j))) l[j].1).1 := by
  rw [List.take_succ_eq_append_getElem h]
  unfold recs
  rw [List.map_append]
  exact all_snoc _ _ _

set_option maxRecDepth 100000 in
set_option maxHeartbeats 4000000 in
theorem mboxMakes_walk (W : World) (v0 : Value) (l : List RecX) (ti fl bo si og : Int) (r0 : RowS W 12 v0 l.length (l.flatMap recC)) (w0 : ∀ y ∈ l, RecOk W y)
    (_w1 : (Lit.int .i64 ti).wf = true) (_w2 : (Lit.int .i64 fl).wf = true) (_w3 : (Lit.int .i64 bo).wf = true) (_w4 : (Lit.int .i64 si).wf = true) (_w5 : (Lit.int .i64 og).wf = true) :
    Calls Try.prog 3 #[v0, .int .i64 ti, .int .i64 fl, .int .i64 bo, .int .i64 si, .int .i64 og] W fun e w' => e = .returned (.bool true) ∧ Keeps W w' := by
  clear _w1 _w2 _w3 _w4 _w5
  obtain ⟨p0, c0, rfl, hc0, hc1⟩ := r0.form
  have HR0 := Lib.hid r0
  have HW0 := Lib.hid (fun y hy => (w0 y hy).row)
  clear r0 w0
  go_enter Try.func3, Try.ntmps3
  go_wp2_with fail
  refine (awake20_any W).mono ?_
  rintro e w1 ⟨rfl, hk1⟩
  have HK := Lib.hid hk1
  have HFW := Lib.hid (few_any w1 (.slice p0 l.length c0) l 40 (by decide) (RowS.keeps HR0.out hk1) (fun y hy => (HW0.out y hy).keeps hk1))
  clear hk1
  go_wp2_with fail
  refine HFW.out.mono ?_
  rintro e w2 ⟨bb, rfl, hl40, hk2⟩
  have HK := Lib.hid (HK.out.trans hk2)
  clear hk2 HFW
  cases bb with
  | false =>
    go_wp2_with fail
    go_ret
    exact ⟨rfl, HK.out⟩
  | true =>
  have hle := hl40 rfl
  clear hl40
  go_wp2_with fail
  refine (new_any w2).mono ?_
  rintro e w3 ⟨g, b1, b2, rfl, hg, h1, h2, hb, hk⟩
  have HGE := Lib.hid (bfr_ge (Nat.le_trans HK.out.size hg) (Nat.le_trans HK.out.size h1) (Nat.le_trans HK.out.size h2))
  have HB := Lib.hid hb
  have HK := Lib.hid (HK.out.trans hk)
  clear hb hk hg h1 h2
  go_wp2_with fail
  go_loopw [14] (fun i wr => ∃ j : Nat, i = .int .i64 (j : Int) ∧ j ≤ l.length ∧ Hid (BoxAt wr g b1 b2 (2 * j) (all new (recs (l.take j))) ∧ Keeps W wr)) (fun i _ => l.length - (intOf i).toNat)
  case atStart => exact ⟨0, rfl, Nat.zero_le _, Lib.hid ⟨HB.out, HK.out⟩⟩
  case round =>
    obtain ⟨j, rfl, hj, HH⟩ := hrel
    clear HB HK
    by_cases hlt : j < l.length
    · obtain ⟨bb, off, cap, hv, hrg⟩ := rowS_rec' (RowS.keeps HR0.out HH.out.2) hlt
      simp only [Value.slice.injEq] at hv
      obtain ⟨rfl, -, rfl⟩ := hv
      have HG := Lib.hid hrg
      have HT := Lib.hid (take_any wr HH.out.1 (by omega) l[j].1 l[j].2 ((HW0.out l[j] (List.getElem_mem hlt)).keeps HH.out.2))
      have HN := Lib.hid (recs_next l hlt)
      clear hrg
      generalize take (all new (recs (l.take j))) l[j].1 = tk at *
      go_wp2_with (refine wpList_ldR rfl recM HG.out _ rfl rfl ?_)
      refine HT.out.mono ?_
      rintro e y1 ⟨rfl, hb, hm⟩
      have HB := Lib.hid hb
      have HK := Lib.hid (hm.keeps HH.out.2 HGE.out)
      clear hb hm
      go_wp2_with fail
      go_roundw
      case rel => exact ⟨j + 1, by simp, by omega, Lib.hid ⟨by rw [HN.out]; exact HB.out, HK.out⟩⟩
      case measure =>
        simp only [intOf]
        omega
    · obtain rfl : j = l.length := by omega
      rw [List.take_length] at HH
      have hinv := inv_all (recs l) new 0 inv_new
      have hrl : (recs l).length = l.length := by simp [recs]
      rw [hrl, Nat.zero_add] at hinv
      have HB := Lib.hid HH.out.1
      have HK := Lib.hid HH.out.2
      clear HH hrl
      generalize all new (recs l) = m at *
      have HI := Lib.hid hinv
      have hn1 := hinv.n1
      have hn2 := hinv.n2
      have hu0 := hinv.b0
      have hu1 := hinv.b1
      have hx0 := hinv.c0
      have hx1 := hinv.c1
      clear hinv
      have HN := Lib.hid (next_any wr HB.out)
      have HU := Lib.hid (use_any wr HB.out)
      go_wp2_with fail
      refine HN.out.mono ?_
      rintro e y0 ⟨rfl, rfl⟩
      go_wp2_with fail
      refine HU.out.mono ?_
      rintro e y1 ⟨rfl, hk1⟩
      have HB := Lib.hid (HB.out.keeps hk1)
      have HK := Lib.hid (HK.out.trans hk1)
      clear hk1 HN HU
      go_upto_region 12 with fail
      generalize hW : World.alloc y1 _ = y2
      have hk2 : Keeps y1 y2 := by rw [← hW]; exact (Keeps.refl _).alloc _
      have HUB := Lib.hid (show Blk y2 y1.heap.size 33 #[.int .i64 m.ub, .int .i64 m.uc] from by rw [← hW]; exact Blk.new _ _ _ rfl)
      have HUN := Lib.hid (fun x (hx : BFr g b1 b2 x) => show ¬ y1.heap.size = x from by have := HB.out.lt x hx; omega)
      have HB := Lib.hid (HB.out.keeps hk2)
      have HK := Lib.hid (HK.out.trans hk2)
      clear hW hk2
      generalize y1.heap.size = bu at *
      have HMK := Lib.hid (make_any y2 HB.out ti fl bo si og)
      obtain ⟨r, hrdef⟩ : ∃ r : Rec, r = ⟨2, 0, 0, 0, 0, m.next, ti, fl, bo, si, og, []⟩ := ⟨_, rfl⟩
      rw [← hrdef] at HMK
      have HRD := Lib.hid hrdef
      clear hrdef
      go_wp2_with fail
      refine HMK.out.mono ?_
      rintro e y3 ⟨rfl, hk3⟩
      have HUB := Lib.hid (HUB.out.keeps hk3)
      have HB := Lib.hid (HB.out.keeps hk3)
      have HK := Lib.hid (HK.out.trans hk3)
      clear hk3 HMK
      unfold recA
      go_upto_region 13 with fail
      generalize hW : World.alloc y3 _ = y4
      have hk4 : Keeps y3 y4 := by rw [← hW]; exact (Keeps.refl _).alloc _
      have HRB := Lib.hid (show Blk y4 y3.heap.size 30 (recA r (.slice none 0 0)) from by rw [← hW]; exact Blk.new _ _ _ rfl)
      have HRN := Lib.hid (fun x (hx : BFr g b1 b2 x) => show ¬ y3.heap.size = x from by have := HB.out.lt x hx; omega)
      have HUB := Lib.hid (HUB.out.keeps hk4)
      have HB := Lib.hid (HB.out.keeps hk4)
      have HK := Lib.hid (HK.out.trans hk4)
      clear hW hk4
      generalize y3.heap.size = br at *
      have useM : Mids Try.prog 33 2 := ⟨⟨_, Try.underlying33, rfl⟩, by kernel_rfl⟩
      have HSM : Hid (∀ w, Calls Try.prog 18 #[.agg (recA r (.slice none 0 0)), .agg (recA ⟨2, 0, 0, 0, 0, m.next, ti, fl, bo, si, og, []⟩ (.slice none 0 0))] w fun e w' => e = .returned (.bool true) ∧ Keeps w w') := Lib.hid (fun w => by
        rw [HRD.out]
        refine (rSame_any _ _ _ _ w (row_nil w) (row_nil w)).mono ?_
        rintro e w' ⟨rfl, hk⟩
        exact ⟨by rw [decide_eq_true rfl], hk⟩)
      go_cut [70] (fun t wx => t = .bool false ∧ Keeps y4 wx)
      case first =>
        refine wp_region_noPanic ?_
        refine wp_region_held_drew (S := fun w' => Keeps y4 w') (by kernel_rfl) ((Keeps.refl y4).drew) (fun _ => ?_)
        have hHeld : Keeps y4 (y4).drew := (Keeps.refl y4).drew
        generalize World.drew y4 = xs at *
        refine wpAnyH_take (i := 0) (v := ?vv1) (by rfl) (by kernel_rfl) (by kernel_rfl) (by kernel_rfl) (by intro _ _ _ h; exact h) (Or.inl ⟨by kernel_rfl, ?hy1⟩) (by assumption) ?rest1
        case hy1 =>
          intro w' hSw
          have hSw : Keeps y4 w' := hSw
          clear hSw
          go_simp
          try with_reducible rfl
        change wpAnyH _ _ _ _ _ _ _ (Act.put _ (some 49) _) _
        try simp only [Act.put, List.setIfInBounds_toArray, List.set_cons_zero, List.set_cons_succ]
        refine wpAnyH_take (i := 2) (v := ?vv2) (by rfl) (by kernel_rfl) (by kernel_rfl) (by kernel_rfl) (by intro _ _ _ h; exact h) (Or.inl ⟨by kernel_rfl, ?hy2⟩) (by assumption) ?rest2
        case hy2 =>
          intro w' hSw
          have hSw : Keeps y4 w' := hSw
          clear hSw
          go_simp
          try with_reducible rfl
        change wpAnyH _ _ _ _ _ _ _ (Act.put _ (some 51) _) _
        try simp only [Act.put, List.setIfInBounds_toArray, List.set_cons_zero, List.set_cons_succ]
        refine wpAnyH_ready (rs := [1]) (by kernel_rfl) (by simp) ?_
        refine AllReadyH.cons (o := _) rfl (fun K hK => ?_) ?_
        · go_simp
          refine (next_any _ (HB.out.keeps hHeld)).mono ?_
          rintro e z1 ⟨rfl, hq⟩
          have hb := hHeld
          rw [hq] at hb
          go_wp2_with fail
          refine hK.out _ _ hb (fun _ => ?_)
          clear hK K hHeld
          have hHeld : Keeps y4 z1 := hb
          clear hb
          try simp only [Act.put, List.setIfInBounds_toArray, List.set_cons_zero, List.set_cons_succ]
          refine wpAnyH_take (i := 3) (v := ?vv3) (by rfl) (by kernel_rfl) (by kernel_rfl) (by kernel_rfl) (by intro _ _ _ h; exact h) (Or.inl ⟨by kernel_rfl, ?hy3⟩) (by assumption) ?rest3
          case hy3 =>
            intro w' hSw
            have hSw : Keeps y4 w' := hSw
            clear hSw
            go_simp
            try with_reducible rfl
          change wpAnyH _ _ _ _ _ _ _ (Act.put _ (some 52) _) _
          try simp only [Act.put, List.setIfInBounds_toArray, List.set_cons_zero, List.set_cons_succ]
          refine wpAnyH_take (i := 4) (v := ?vv4) (by rfl) (by kernel_rfl) (by kernel_rfl) (by kernel_rfl) (by intro _ _ _ h; exact h) (Or.inl ⟨by kernel_rfl, ?hy4⟩) (by assumption) ?rest4
          case hy4 =>
            intro w' hSw
            have hSw : Keeps y4 w' := hSw
            clear hSw
            go_simp
            try with_reducible rfl
          change wpAnyH _ _ _ _ _ _ _ (Act.put _ (some 53) _) _
          try simp only [Act.put, List.setIfInBounds_toArray, List.set_cons_zero, List.set_cons_succ]
          refine wpAnyH_take (i := 5) (v := ?vv5) (by rfl) (by kernel_rfl) (by kernel_rfl) (by kernel_rfl) (by intro _ _ _ h; exact h) (Or.inl ⟨by kernel_rfl, ?hy5⟩) (by assumption) ?rest5
          case hy5 =>
            intro w' hSw
            have hSw : Keeps y4 w' := hSw
            clear hSw
            go_simp
            try with_reducible rfl
          change wpAnyH _ _ _ _ _ _ _ (Act.put _ (some 54) _) _
          try simp only [Act.put, List.setIfInBounds_toArray, List.set_cons_zero, List.set_cons_succ]
          refine wpAnyH_take (i := 7) (by rfl) (by kernel_rfl) (by kernel_rfl) (by kernel_rfl) (by intro _ _ _ h; exact h) (yieldsIf_ld (by kernel_rfl) useM (fun w' hS => HUB.out.keeps hS) _ rfl rfl) (by assumption) ?rest6
          change wpAnyH _ _ _ _ _ _ _ (Act.put _ (some 56) _) _
          try simp only [Act.put, List.setIfInBounds_toArray, List.set_cons_zero, List.set_cons_succ]
          refine wpAnyH_ready (rs := [6]) (by kernel_rfl) (by simp) ?_
          refine AllReadyH.cons (o := _) rfl (fun K hK => ?_) ?_
          · go_simp
            refine (use_any _ (HB.out.keeps hHeld)).mono ?_
            rintro e z2 ⟨rfl, hk⟩
            have hb := hHeld.trans hk
            clear hk
            go_wp2_with fail
            refine hK.out _ _ hb (fun _ => ?_)
            clear hK K hHeld
            have hHeld : Keeps y4 z2 := hb
            clear hb
            try simp only [Act.put, List.setIfInBounds_toArray, List.set_cons_zero, List.set_cons_succ]
            refine wpAnyH_take (i := 8) (v := ?vv7) (by rfl) (by kernel_rfl) (by kernel_rfl) (by kernel_rfl) (by intro _ _ _ h; exact h) (Or.inl ⟨by kernel_rfl, ?hy7⟩) (by assumption) ?rest7
            case hy7 =>
              intro w' hSw
              have hSw : Keeps y4 w' := hSw
              clear hSw
              go_simp
              try with_reducible rfl
            change wpAnyH _ _ _ _ _ _ _ (Act.put _ (some 57) _) _
            try simp only [Act.put, List.setIfInBounds_toArray, List.set_cons_zero, List.set_cons_succ]
            refine wpAnyH_take (i := 9) (v := ?vv8) (by rfl) (by kernel_rfl) (by kernel_rfl) (by kernel_rfl) (by intro _ _ _ h; exact h) (Or.inl ⟨by kernel_rfl, ?hy8⟩) (by assumption) ?rest8
            case hy8 =>
              intro w' hSw
              have hSw : Keeps y4 w' := hSw
              clear hSw
              go_simp
              try with_reducible rfl
            change wpAnyH _ _ _ _ _ _ _ (Act.put _ (some 58) _) _
            try simp only [Act.put, List.setIfInBounds_toArray, List.set_cons_zero, List.set_cons_succ]
            refine wpAnyH_take (i := 10) (v := ?vv9) (by rfl) (by kernel_rfl) (by kernel_rfl) (by kernel_rfl) (by intro _ _ _ h; exact h) (Or.inl ⟨by kernel_rfl, ?hy9⟩) (by assumption) ?rest9
            case hy9 =>
              intro w' hSw
              have hSw : Keeps y4 w' := hSw
              clear hSw
              go_simp
              try with_reducible rfl
            change wpAnyH _ _ _ _ _ _ _ (Act.put _ (some 59) _) _
            try simp only [Act.put, List.setIfInBounds_toArray, List.set_cons_zero, List.set_cons_succ]
            refine wpAnyH_take (i := 11) (by rfl) (by kernel_rfl) (by kernel_rfl) (by kernel_rfl) (by intro _ _ _ h; exact h) (yieldsIf_ld (by kernel_rfl) recM (fun w' hS => HRB.out.keeps hS) _ rfl rfl) (by assumption) ?rest10
            change wpAnyH _ _ _ _ _ _ _ (Act.put _ (some 60) _) _
            try simp only [Act.put, List.setIfInBounds_toArray, List.set_cons_zero, List.set_cons_succ]
            refine wpAnyH_take (i := 12) (v := ?vv11) (by rfl) (by kernel_rfl) (by kernel_rfl) (by kernel_rfl) (by intro _ _ _ h; exact h) (Or.inl ⟨by kernel_rfl, ?hy11⟩) (by assumption) ?rest11
            case hy11 =>
              intro w' hSw
              have hSw : Keeps y4 w' := hSw
              clear hSw
              go_simp
              try with_reducible rfl
            change wpAnyH _ _ _ _ _ _ _ (Act.put _ (some 61) _) _
            try simp only [Act.put, List.setIfInBounds_toArray, List.set_cons_zero, List.set_cons_succ]
            refine wpAnyH_take (i := 13) (v := ?vv12) (by rfl) (by kernel_rfl) (by kernel_rfl) (by kernel_rfl) (by intro _ _ _ h; exact h) (Or.inl ⟨by kernel_rfl, ?hy12⟩) (by assumption) ?rest12
            case hy12 =>
              intro w' hSw
              have hSw : Keeps y4 w' := hSw
              clear hSw
              go_simp
              try with_reducible rfl
            change wpAnyH _ _ _ _ _ _ _ (Act.put _ (some 62) _) _
            try simp only [Act.put, List.setIfInBounds_toArray, List.set_cons_zero, List.set_cons_succ]
            refine wpAnyH_take (i := 14) (v := ?vv13) (by rfl) (by kernel_rfl) (by kernel_rfl) (by kernel_rfl) (by intro _ _ _ h; exact h) (Or.inl ⟨by kernel_rfl, ?hy13⟩) (by assumption) ?rest13
            case hy13 =>
              intro w' hSw
              have hSw : Keeps y4 w' := hSw
              clear hSw
              go_simp
              try with_reducible rfl
            change wpAnyH _ _ _ _ _ _ _ (Act.put _ (some 63) _) _
            try simp only [Act.put, List.setIfInBounds_toArray, List.set_cons_zero, List.set_cons_succ]
            refine wpAnyH_take (i := 15) (v := ?vv14) (by rfl) (by kernel_rfl) (by kernel_rfl) (by kernel_rfl) (by intro _ _ _ h; exact h) (Or.inl ⟨by kernel_rfl, ?hy14⟩) (by assumption) ?rest14
            case hy14 =>
              intro w' hSw
              have hSw : Keeps y4 w' := hSw
              clear hSw
              go_simp
              try with_reducible rfl
            change wpAnyH _ _ _ _ _ _ _ (Act.put _ (some 64) _) _
            try simp only [Act.put, List.setIfInBounds_toArray, List.set_cons_zero, List.set_cons_succ]
            refine wpAnyH_take (i := 16) (v := ?vv15) (by rfl) (by kernel_rfl) (by kernel_rfl) (by kernel_rfl) (by intro _ _ _ h; exact h) (Or.inl ⟨by kernel_rfl, ?hy15⟩) (by assumption) ?rest15
            case hy15 =>
              intro w' hSw
              have hSw : Keeps y4 w' := hSw
              clear hSw
              go_simp
              try with_reducible rfl
            change wpAnyH _ _ _ _ _ _ _ (Act.put _ (some 65) _) _
            try simp only [Act.put, List.setIfInBounds_toArray, List.set_cons_zero, List.set_cons_succ]
            refine wpAnyH_take (i := 17) (v := ?vv16) (by rfl) (by kernel_rfl) (by kernel_rfl) (by kernel_rfl) (by intro _ _ _ h; exact h) (Or.inl ⟨by kernel_rfl, ?hy16⟩) (by assumption) ?rest16
            case hy16 =>
              intro w' hSw
              have hSw : Keeps y4 w' := hSw
              clear hSw
              go_simp
              try with_reducible rfl
            change wpAnyH _ _ _ _ _ _ _ (Act.put _ (some 66) _) _
            try simp only [Act.put, List.setIfInBounds_toArray, List.set_cons_zero, List.set_cons_succ]
            refine wpAnyH_take (i := 18) (v := ?vv17) (by rfl) (by kernel_rfl) (by kernel_rfl) (by kernel_rfl) (by intro _ _ _ h; exact h) (Or.inl ⟨by kernel_rfl, ?hy17⟩) (by assumption) ?rest17
            case hy17 =>
              intro w' hSw
              have hSw : Keeps y4 w' := hSw
              clear hSw
              go_simp
              try with_reducible rfl
            change wpAnyH _ _ _ _ _ _ _ (Act.put _ (some 67) _) _
            try simp only [Act.put, List.setIfInBounds_toArray, List.set_cons_zero, List.set_cons_succ]
            refine wpAnyH_ready (rs := [19]) (by kernel_rfl) (by simp) ?_
            refine AllReadyH.cons (o := _) rfl (fun K hK => ?_) ?_
            · go_simp
              refine (HSM.out _).mono ?_
              rintro e z3 ⟨rfl, hk⟩
              have hb := hHeld.trans hk
              clear hk
              go_wp2_with fail
              refine hK.out _ _ hb (fun _ => ?_)
              clear hK K hHeld
              have hHeld : Keeps y4 z3 := hb
              clear hb
              try simp only [Act.put, List.setIfInBounds_toArray, List.set_cons_zero, List.set_cons_succ]
              refine wpAnyH_take (i := 20) (v := ?vv18) (by rfl) (by kernel_rfl) (by kernel_rfl) (by kernel_rfl) (by intro _ _ _ h; exact h) (Or.inl ⟨by kernel_rfl, ?hy18⟩) (by assumption) ?rest18
              case hy18 =>
                intro w' hSw
                have hSw : Keeps y4 w' := hSw
                clear hSw
                go_simp
                try with_reducible rfl
              change wpAnyH _ _ _ _ _ _ _ (Act.put _ (some 69) _) _
              try simp only [Act.put, List.setIfInBounds_toArray, List.set_cons_zero, List.set_cons_succ]
              refine wpAnyH_take (i := 21) (v := ?vv19) (by rfl) (by kernel_rfl) (by kernel_rfl) (by kernel_rfl) (by intro _ _ _ h; exact h) (Or.inl ⟨by kernel_rfl, ?hy19⟩) (by assumption) ?rest19
              case hy19 =>
                intro w' hSw
                have hSw : Keeps y4 w' := hSw
                clear hSw
                go_simp
                try with_reducible rfl
              change wpAnyH _ _ _ _ _ _ _ (Act.put _ (some 70) _) _
              try simp only [Act.put, List.setIfInBounds_toArray, List.set_cons_zero, List.set_cons_succ]
              refine wpAnyH_done (by kernel_rfl) ?_ _
              refine NoPanic.normal ?_
              go_wp2_with fail
              go_meet
              exact ⟨rfl, hHeld⟩
            exact AllReadyH.nil
          exact AllReadyH.nil
        exact AllReadyH.nil
      case rest =>
      obtain ⟨rfl, hkc⟩ := hcut
      obtain ⟨y5, rfl⟩ : ∃ wz : World, wz = wc := ⟨_, rfl⟩
      have HRB := Lib.hid (HRB.out.keeps hkc)
      have HUB := Lib.hid (HUB.out.keeps hkc)
      have HB := Lib.hid (HB.out.keeps hkc)
      have HK := Lib.hid (HK.out.trans hkc)
      clear hkc HSM
      have hrk : r.kind = 2 := by rw [HRD.out]
      have hru : r.uid = m.next := by rw [HRD.out]
      have HCH := Lib.hid (rCheck_any r (.slice none 0 0) y5 (by rw [HRD.out]; exact row_nil y5))
      have HTK := Lib.hid (fun w' (h : BoxAt w' g b1 b2 (2 * l.length) m) => take_any w' h (by omega) r (.slice none 0 0) (by rw [HRD.out]; exact row_nil w'))
      have HTM : Hid (chk r = 0 → take m r = (addM m r, true)) := Lib.hid (fun h => take_next HI.out (by omega) hrk hru h)
      have HTN : Hid (chk r ≠ 0 → take m r = (m, false)) := Lib.hid (fun h => by unfold take; rw [if_pos h])
      have HEO := Lib.hid (show (addM m r).ent m.next = some ⟨m.next, ti, fl, bo, si, og, false⟩ from by
        have : (addM m r).ent m.next = upd m.ent m.next ⟨m.next, ti, fl, bo, si, og, false⟩ m.next := by rw [HRD.out]; rfl
        rw [this, upd_same])
      have HNX := Lib.hid (show (addM m r).next = m.next + 1 ∧ (addM m r).ub = m.ub + si ∧ (addM m r).uc = m.uc + 1 from by
        rw [HRD.out]
        refine ⟨?_, rfl, rfl⟩
        show (if m.next < m.next + 1 then m.next + 1 else m.next) = m.next + 1
        rw [if_pos (by omega)])
      have HSZ : Hid (chk r = 0 → 0 ≤ si ∧ si ≤ 32768) := Lib.hid (fun h => by
        have := chk_msg h hrk
        rw [HRD.out] at this
        exact ⟨this.2.2.1, this.2.2.2⟩)
      clear hrk hru
      generalize addM m r = M at *
      go_wp2_with (refine wpList_ld rfl recM HRB.out _ rfl rfl ?_)
      refine HCH.out.mono ?_
      rintro e y6 ⟨rfl, hk⟩
      have HRB := Lib.hid (HRB.out.keeps hk)
      have HUB := Lib.hid (HUB.out.keeps hk)
      have HB := Lib.hid (HB.out.keeps hk)
      have HK := Lib.hid (HK.out.trans hk)
      clear hk HCH HRD
      have ht := HTK.out y6 HB.out
      clear HTK
      generalize hcr : chk r = c at *
      by_cases hc : c = 0
      · rw [HTM.out hc] at ht
        have hsz := HSZ.out hc
        clear HTN HTM HSZ hcr
        subst hc
        have HT := Lib.hid ht
        clear ht
        go_wp2_with (refine wpList_ld rfl recM HRB.out _ rfl rfl ?_)
        refine HT.out.mono ?_
        rintro e y7 ⟨rfl, hb, hm⟩
        have HB := Lib.hid hb
        have HK := Lib.hid (hm.keeps HK.out HGE.out)
        have HUB := Lib.hid (HUB.out.mods hm (fun hx => HUN.out _ hx rfl))
        clear hb hm HT HRB HRN
        have HG := Lib.hid (get_any y7 HB.out m.next (i64wf (by omega)))
        rw [HEO.out] at HG
        simp only [Option.getD_some, Option.isSome_some] at HG
        unfold entA at HG
        go_wp2_with fail
        refine HG.out.mono ?_
        rintro e y8 ⟨rfl, hk⟩
        have HUB := Lib.hid (HUB.out.keeps hk)
        have HB := Lib.hid (HB.out.keeps hk)
        have HK := Lib.hid (HK.out.trans hk)
        clear hk HG HEO
        go_upto_region 20 with fail
        generalize hW : World.alloc y8 _ = y9
        have hk9 : Keeps y8 y9 := by rw [← hW]; exact (Keeps.refl _).alloc _
        have HEB := Lib.hid (show Blk y9 y8.heap.size 40 #[.int .i64 m.next, .int .i64 ti, .int .i64 fl, .int .i64 bo, .int .i64 si, .int .i64 og, .bool false] from by rw [← hW]; exact Blk.new _ _ _ rfl)
        have HUB := Lib.hid (HUB.out.keeps hk9)
        have HB := Lib.hid (HB.out.keeps hk9)
        have HK := Lib.hid (HK.out.trans hk9)
        clear hW hk9
        generalize y8.heap.size = be at *
        have q0 : y9.cell? ⟨bu, 0, none⟩ = some (.int .i64 m.ub) := by rw [HUB.out.cell]; rfl
        have q1 : y9.cell? ⟨bu, 1, none⟩ = some (.int .i64 m.uc) := by rw [HUB.out.cell]; rfl
        have wr1 : IntKind.i64.wrap (m.next + 1) = M.next := by rw [HNX.out.1]; exact IntWalk.i64_in _ (by omega)
        have wr2 : IntKind.i64.wrap (m.ub + si) = M.ub := by rw [HNX.out.2.1]; exact IntWalk.i64_in _ (by omega)
        have wr3 : IntKind.i64.wrap (m.uc + 1) = M.uc := by rw [HNX.out.2.2]; exact IntWalk.i64_in _ (by omega)
        refine wp_region_noPanic ?_
        refine wp_region_held_drew (S := fun w' => Keeps y9 w') (by kernel_rfl) ((Keeps.refl y9).drew) (fun _ => ?_)
        have hHeld : Keeps y9 (y9).drew := (Keeps.refl y9).drew
        generalize World.drew y9 = xs at *
        refine wpAnyH_take (i := 0) (v := ?vv20) (by rfl) (by kernel_rfl) (by kernel_rfl) (by kernel_rfl) (by intro _ _ _ h; exact h) (Or.inl ⟨by kernel_rfl, ?hy20⟩) (by assumption) ?rest20
        case hy20 =>
          intro w' hSw
          have hSw : Keeps y9 w' := hSw
          clear hSw
          go_simp
          try with_reducible rfl
        change wpAnyH _ _ _ _ _ _ _ (Act.put _ (some 94) _) _
        try simp only [Act.put, List.setIfInBounds_toArray, List.set_cons_zero, List.set_cons_succ]
        refine wpAnyH_take (i := 1) (v := ?vv21) (by rfl) (by kernel_rfl) (by kernel_rfl) (by kernel_rfl) (by intro _ _ _ h; exact h) (Or.inl ⟨by kernel_rfl, ?hy21⟩) (by assumption) ?rest21
        case hy21 =>
          intro w' hSw
          have hSw : Keeps y9 w' := hSw
          clear hSw
          go_simp
          try with_reducible rfl
        change wpAnyH _ _ _ _ _ _ _ (Act.put _ (some 95) _) _
        try simp only [Act.put, List.setIfInBounds_toArray, List.set_cons_zero, List.set_cons_succ]
        refine wpAnyH_take (i := 2) (v := ?vv22) (by rfl) (by kernel_rfl) (by kernel_rfl) (by kernel_rfl) (by intro _ _ _ h; exact h) (Or.inl ⟨by kernel_rfl, ?hy22⟩) (by assumption) ?rest22
        case hy22 =>
          intro w' hSw
          have hSw : Keeps y9 w' := hSw
          clear hSw
          go_simp
          try with_reducible rfl
        change wpAnyH _ _ _ _ _ _ _ (Act.put _ (some 96) _) _
        try simp only [Act.put, List.setIfInBounds_toArray, List.set_cons_zero, List.set_cons_succ]
        refine wpAnyH_take (i := 4) (v := ?vv23) (by rfl) (by kernel_rfl) (by kernel_rfl) (by kernel_rfl) (by intro _ _ _ h; exact h) (Or.inl ⟨by kernel_rfl, ?hy23⟩) (by assumption) ?rest23
        case hy23 =>
          intro w' hSw
          have hSw : Keeps y9 w' := hSw
          clear hSw
          go_simp
          try with_reducible rfl
        change wpAnyH _ _ _ _ _ _ _ (Act.put _ (some 98) _) _
        try simp only [Act.put, List.setIfInBounds_toArray, List.set_cons_zero, List.set_cons_succ]
        refine wpAnyH_take (i := 5) (v := ?vv24) (by rfl) (by kernel_rfl) (by kernel_rfl) (by kernel_rfl) (by intro _ _ _ h; exact h) (Or.inl ⟨by kernel_rfl, ?hy24⟩) (by assumption) ?rest24
        case hy24 =>
          intro w' hSw
          have hSw : Keeps y9 w' := hSw
          clear hSw
          go_simp
          try with_reducible rfl
        change wpAnyH _ _ _ _ _ _ _ (Act.put _ (some 99) _) _
        try simp only [Act.put, List.setIfInBounds_toArray, List.set_cons_zero, List.set_cons_succ]
        refine wpAnyH_ready (rs := [3]) (by kernel_rfl) (by simp) ?_
        refine AllReadyH.cons (o := _) rfl (fun K hK => ?_) ?_
        · go_simp
          refine (next_any _ (HB.out.keeps hHeld)).mono ?_
          rintro e z1 ⟨rfl, hq⟩
          have hb := hHeld
          rw [hq] at hb
          go_wp2_with fail
          refine hK.out _ _ hb (fun _ => ?_)
          clear hK K hHeld
          have hHeld : Keeps y9 z1 := hb
          clear hb
          try simp only [Act.put, List.setIfInBounds_toArray, List.set_cons_zero, List.set_cons_succ]
          refine wpAnyH_take (i := 6) (v := ?vv25) (by rfl) (by kernel_rfl) (by kernel_rfl) (by kernel_rfl) (by intro _ _ _ h; exact h) (Or.inl ⟨by kernel_rfl, ?hy25⟩) (by assumption) ?rest25
          case hy25 =>
            intro w' hSw
            have hSw : Keeps y9 w' := hSw
            clear hSw
            go_simp
            try with_reducible rfl
          change wpAnyH _ _ _ _ _ _ _ (Act.put _ (some 100) _) _
          try simp only [Act.put, List.setIfInBounds_toArray, List.set_cons_zero, List.set_cons_succ]
          refine wpAnyH_take (i := 7) (v := ?vv26) (by rfl) (by kernel_rfl) (by kernel_rfl) (by kernel_rfl) (by intro _ _ _ h; exact h) (Or.inl ⟨by kernel_rfl, ?hy26⟩) (by assumption) ?rest26
          case hy26 =>
            intro w' hSw
            have hSw : Keeps y9 w' := hSw
            clear hSw
            go_simp
            try with_reducible rfl
          change wpAnyH _ _ _ _ _ _ _ (Act.put _ (some 101) _) _
          try simp only [Act.put, List.setIfInBounds_toArray, List.set_cons_zero, List.set_cons_succ]
          refine wpAnyH_take (i := 8) (v := ?vv27) (by rfl) (by kernel_rfl) (by kernel_rfl) (by kernel_rfl) (by intro _ _ _ h; exact h) (Or.inl ⟨by kernel_rfl, ?hy27⟩) (by assumption) ?rest27
          case hy27 =>
            intro w' hSw
            have hSw : Keeps y9 w' := hSw
            clear hSw
            go_simp
            try with_reducible rfl
          change wpAnyH _ _ _ _ _ _ _ (Act.put _ (some 102) _) _
          try simp only [Act.put, List.setIfInBounds_toArray, List.set_cons_zero, List.set_cons_succ]
          refine wpAnyH_take (i := 9) (v := ?vv28) (by rfl) (by kernel_rfl) (by kernel_rfl) (by kernel_rfl) (by intro _ _ _ h; exact h) (Or.inl ⟨by kernel_rfl, ?hy28⟩) (by assumption) ?rest28
          case hy28 =>
            intro w' hSw
            have hSw : Keeps y9 w' := hSw
            clear hSw
            go_simp
            try with_reducible rfl
          change wpAnyH _ _ _ _ _ _ _ (Act.put _ (some 103) _) _
          try simp only [Act.put, List.setIfInBounds_toArray, List.set_cons_zero, List.set_cons_succ]
          refine wpAnyH_take (i := 11) (v := ?vv29) (by rfl) (by kernel_rfl) (by kernel_rfl) (by kernel_rfl) (by intro _ _ _ h; exact h) (Or.inl ⟨by kernel_rfl, ?hy29⟩) (by assumption) ?rest29
          case hy29 =>
            intro w' hSw
            have hSw : Keeps y9 w' := hSw
            clear hSw
            go_simp
            try with_reducible rfl
          change wpAnyH _ _ _ _ _ _ _ (Act.put _ (some 105) _) _
          try simp only [Act.put, List.setIfInBounds_toArray, List.set_cons_zero, List.set_cons_succ]
          refine wpAnyH_take (i := 12) (v := ?vv30) (by rfl) (by kernel_rfl) (by kernel_rfl) (by kernel_rfl) (by intro _ _ _ h; exact h) (Or.inl ⟨by kernel_rfl, ?hy30⟩) (by assumption) ?rest30
          case hy30 =>
            intro w' hSw
            have hSw : Keeps y9 w' := hSw
            have hx := keep1 hSw q0
            clear hSw
            go_simp
            try with_reducible rfl
          change wpAnyH _ _ _ _ _ _ _ (Act.put _ (some 106) _) _
          try simp only [Act.put, List.setIfInBounds_toArray, List.set_cons_zero, List.set_cons_succ]
          refine wpAnyH_take (i := 13) (v := ?vv31) (by rfl) (by kernel_rfl) (by kernel_rfl) (by kernel_rfl) (by intro _ _ _ h; exact h) (Or.inl ⟨by kernel_rfl, ?hy31⟩) (by assumption) ?rest31
          case hy31 =>
            intro w' hSw
            have hSw : Keeps y9 w' := hSw
            clear hSw
            go_simp
            try with_reducible rfl
          change wpAnyH _ _ _ _ _ _ _ (Act.put _ (some 107) _) _
          try simp only [Act.put, List.setIfInBounds_toArray, List.set_cons_zero, List.set_cons_succ]
          refine wpAnyH_take (i := 14) (v := ?vv32) (by rfl) (by kernel_rfl) (by kernel_rfl) (by kernel_rfl) (by intro _ _ _ h; exact h) (Or.inl ⟨by kernel_rfl, ?hy32⟩) (by assumption) ?rest32
          case hy32 =>
            intro w' hSw
            have hSw : Keeps y9 w' := hSw
            clear hSw
            go_simp
            try with_reducible rfl
          change wpAnyH _ _ _ _ _ _ _ (Act.put _ (some 108) _) _
          try simp only [Act.put, List.setIfInBounds_toArray, List.set_cons_zero, List.set_cons_succ]
          refine wpAnyH_take (i := 15) (v := ?vv33) (by rfl) (by kernel_rfl) (by kernel_rfl) (by kernel_rfl) (by intro _ _ _ h; exact h) (Or.inl ⟨by kernel_rfl, ?hy33⟩) (by assumption) ?rest33
          case hy33 =>
            intro w' hSw
            have hSw : Keeps y9 w' := hSw
            clear hSw
            go_simp
            try with_reducible rfl
          change wpAnyH _ _ _ _ _ _ _ (Act.put _ (some 109) _) _
          try simp only [Act.put, List.setIfInBounds_toArray, List.set_cons_zero, List.set_cons_succ]
          refine wpAnyH_take (i := 16) (v := ?vv34) (by rfl) (by kernel_rfl) (by kernel_rfl) (by kernel_rfl) (by intro _ _ _ h; exact h) (Or.inl ⟨by kernel_rfl, ?hy34⟩) (by assumption) ?rest34
          case hy34 =>
            intro w' hSw
            have hSw : Keeps y9 w' := hSw
            have hx := keep1 hSw q1
            clear hSw
            go_simp
            try with_reducible rfl
          change wpAnyH _ _ _ _ _ _ _ (Act.put _ (some 110) _) _
          try simp only [Act.put, List.setIfInBounds_toArray, List.set_cons_zero, List.set_cons_succ]
          refine wpAnyH_take (i := 17) (v := ?vv35) (by rfl) (by kernel_rfl) (by kernel_rfl) (by kernel_rfl) (by intro _ _ _ h; exact h) (Or.inl ⟨by kernel_rfl, ?hy35⟩) (by assumption) ?rest35
          case hy35 =>
            intro w' hSw
            have hSw : Keeps y9 w' := hSw
            clear hSw
            go_simp
            try with_reducible rfl
          change wpAnyH _ _ _ _ _ _ _ (Act.put _ (some 111) _) _
          try simp only [Act.put, List.setIfInBounds_toArray, List.set_cons_zero, List.set_cons_succ]
          refine wpAnyH_take (i := 18) (v := ?vv36) (by rfl) (by kernel_rfl) (by kernel_rfl) (by kernel_rfl) (by intro _ _ _ h; exact h) (Or.inl ⟨by kernel_rfl, ?hy36⟩) (by assumption) ?rest36
          case hy36 =>
            intro w' hSw
            have hSw : Keeps y9 w' := hSw
            clear hSw
            go_simp
            try with_reducible rfl
          change wpAnyH _ _ _ _ _ _ _ (Act.put _ (some 112) _) _
          try simp only [Act.put, List.setIfInBounds_toArray, List.set_cons_zero, List.set_cons_succ]
          refine wpAnyH_ready (rs := [10]) (by kernel_rfl) (by simp) ?_
          refine AllReadyH.cons (o := _) rfl (fun K hK => ?_) ?_
          · go_simp
            refine (use_any _ (HB.out.keeps hHeld)).mono ?_
            rintro e z2 ⟨rfl, hk⟩
            have hb := hHeld.trans hk
            clear hk
            go_wp2_with fail
            refine hK.out _ _ hb (fun _ => ?_)
            clear hK K hHeld
            have hHeld : Keeps y9 z2 := hb
            clear hb
            try simp only [Act.put, List.setIfInBounds_toArray, List.set_cons_zero, List.set_cons_succ]
            refine wpAnyH_take (i := 19) (v := ?vv37) (by rfl) (by kernel_rfl) (by kernel_rfl) (by kernel_rfl) (by intro _ _ _ h; exact h) (Or.inl ⟨by kernel_rfl, ?hy37⟩) (by assumption) ?rest37
            case hy37 =>
              intro w' hSw
              have hSw : Keeps y9 w' := hSw
              clear hSw
              go_simp
              try with_reducible rfl
            change wpAnyH _ _ _ _ _ _ _ (Act.put _ (some 113) _) _
            try simp only [Act.put, List.setIfInBounds_toArray, List.set_cons_zero, List.set_cons_succ]
            refine wpAnyH_take (i := 20) (v := ?vv38) (by rfl) (by kernel_rfl) (by kernel_rfl) (by kernel_rfl) (by intro _ _ _ h; exact h) (Or.inl ⟨by kernel_rfl, ?hy38⟩) (by assumption) ?rest38
            case hy38 =>
              intro w' hSw
              have hSw : Keeps y9 w' := hSw
              clear hSw
              go_simp
              try with_reducible rfl
            change wpAnyH _ _ _ _ _ _ _ (Act.put _ (some 114) _) _
            try simp only [Act.put, List.setIfInBounds_toArray, List.set_cons_zero, List.set_cons_succ]
            refine wpAnyH_take (i := 21) (v := ?vv39) (by rfl) (by kernel_rfl) (by kernel_rfl) (by kernel_rfl) (by intro _ _ _ h; exact h) (Or.inl ⟨by kernel_rfl, ?hy39⟩) (by assumption) ?rest39
            case hy39 =>
              intro w' hSw
              have hSw : Keeps y9 w' := hSw
              clear hSw
              go_simp
              try with_reducible rfl
            change wpAnyH _ _ _ _ _ _ _ (Act.put _ (some 115) _) _
            try simp only [Act.put, List.setIfInBounds_toArray, List.set_cons_zero, List.set_cons_succ]
            refine wpAnyH_take (i := 22) (by rfl) (by kernel_rfl) (by kernel_rfl) (by kernel_rfl) (by intro _ _ _ h; exact h) (yieldsIf_ld (by kernel_rfl) entM (fun w' hS => HEB.out.keeps hS) _ rfl rfl) (by assumption) ?rest40
            change wpAnyH _ _ _ _ _ _ _ (Act.put _ (some 116) _) _
            try simp only [Act.put, List.setIfInBounds_toArray, List.set_cons_zero, List.set_cons_succ]
            refine wpAnyH_take (i := 23) (v := ?vv41) (by rfl) (by kernel_rfl) (by kernel_rfl) (by kernel_rfl) (by intro _ _ _ h; exact h) (Or.inl ⟨by kernel_rfl, ?hy41⟩) (by assumption) ?rest41
            case hy41 =>
              intro w' hSw
              have hSw : Keeps y9 w' := hSw
              clear hSw
              go_simp
              try with_reducible rfl
            change wpAnyH _ _ _ _ _ _ _ (Act.put _ (some 117) _) _
            try simp only [Act.put, List.setIfInBounds_toArray, List.set_cons_zero, List.set_cons_succ]
            refine wpAnyH_take (i := 24) (v := ?vv42) (by rfl) (by kernel_rfl) (by kernel_rfl) (by kernel_rfl) (by intro _ _ _ h; exact h) (Or.inl ⟨by kernel_rfl, ?hy42⟩) (by assumption) ?rest42
            case hy42 =>
              intro w' hSw
              have hSw : Keeps y9 w' := hSw
              clear hSw
              go_simp
              try with_reducible rfl
            change wpAnyH _ _ _ _ _ _ _ (Act.put _ (some 118) _) _
            try simp only [Act.put, List.setIfInBounds_toArray, List.set_cons_zero, List.set_cons_succ]
            refine wpAnyH_take (i := 25) (v := ?vv43) (by rfl) (by kernel_rfl) (by kernel_rfl) (by kernel_rfl) (by intro _ _ _ h; exact h) (Or.inl ⟨by kernel_rfl, ?hy43⟩) (by assumption) ?rest43
            case hy43 =>
              intro w' hSw
              have hSw : Keeps y9 w' := hSw
              clear hSw
              go_simp
              try with_reducible rfl
            change wpAnyH _ _ _ _ _ _ _ (Act.put _ (some 119) _) _
            try simp only [Act.put, List.setIfInBounds_toArray, List.set_cons_zero, List.set_cons_succ]
            refine wpAnyH_take (i := 26) (v := ?vv44) (by rfl) (by kernel_rfl) (by kernel_rfl) (by kernel_rfl) (by intro _ _ _ h; exact h) (Or.inl ⟨by kernel_rfl, ?hy44⟩) (by assumption) ?rest44
            case hy44 =>
              intro w' hSw
              have hSw : Keeps y9 w' := hSw
              clear hSw
              go_simp
              try with_reducible rfl
            change wpAnyH _ _ _ _ _ _ _ (Act.put _ (some 120) _) _
            try simp only [Act.put, List.setIfInBounds_toArray, List.set_cons_zero, List.set_cons_succ]
            refine wpAnyH_take (i := 27) (v := ?vv45) (by rfl) (by kernel_rfl) (by kernel_rfl) (by kernel_rfl) (by intro _ _ _ h; exact h) (Or.inl ⟨by kernel_rfl, ?hy45⟩) (by assumption) ?rest45
            case hy45 =>
              intro w' hSw
              have hSw : Keeps y9 w' := hSw
              clear hSw
              go_simp
              try with_reducible rfl
            change wpAnyH _ _ _ _ _ _ _ (Act.put _ (some 121) _) _
            try simp only [Act.put, List.setIfInBounds_toArray, List.set_cons_zero, List.set_cons_succ]
            refine wpAnyH_take (i := 28) (v := ?vv46) (by rfl) (by kernel_rfl) (by kernel_rfl) (by kernel_rfl) (by intro _ _ _ h; exact h) (Or.inl ⟨by kernel_rfl, ?hy46⟩) (by assumption) ?rest46
            case hy46 =>
              intro w' hSw
              have hSw : Keeps y9 w' := hSw
              clear hSw
              go_simp
              try with_reducible rfl
            change wpAnyH _ _ _ _ _ _ _ (Act.put _ (some 122) _) _
            try simp only [Act.put, List.setIfInBounds_toArray, List.set_cons_zero, List.set_cons_succ]
            refine wpAnyH_take (i := 29) (v := ?vv47) (by rfl) (by kernel_rfl) (by kernel_rfl) (by kernel_rfl) (by intro _ _ _ h; exact h) (Or.inl ⟨by kernel_rfl, ?hy47⟩) (by assumption) ?rest47
            case hy47 =>
              intro w' hSw
              have hSw : Keeps y9 w' := hSw
              clear hSw
              go_simp
              try with_reducible rfl
            change wpAnyH _ _ _ _ _ _ _ (Act.put _ (some 123) _) _
            try simp only [Act.put, List.setIfInBounds_toArray, List.set_cons_zero, List.set_cons_succ]
            refine wpAnyH_take (i := 30) (v := ?vv48) (by rfl) (by kernel_rfl) (by kernel_rfl) (by kernel_rfl) (by intro _ _ _ h; exact h) (Or.inl ⟨by kernel_rfl, ?hy48⟩) (by assumption) ?rest48
            case hy48 =>
              intro w' hSw
              have hSw : Keeps y9 w' := hSw
              clear hSw
              go_simp
              try with_reducible rfl
            change wpAnyH _ _ _ _ _ _ _ (Act.put _ (some 124) _) _
            try simp only [Act.put, List.setIfInBounds_toArray, List.set_cons_zero, List.set_cons_succ]
            refine wpAnyH_take (i := 31) (v := ?vv49) (by rfl) (by kernel_rfl) (by kernel_rfl) (by kernel_rfl) (by intro _ _ _ h; exact h) (Or.inl ⟨by kernel_rfl, ?hy49⟩) (by assumption) ?rest49
            case hy49 =>
              intro w' hSw
              have hSw : Keeps y9 w' := hSw
              clear hSw
              go_simp
              try with_reducible rfl
            change wpAnyH _ _ _ _ _ _ _ (Act.put _ (some 125) _) _
            try simp only [Act.put, List.setIfInBounds_toArray, List.set_cons_zero, List.set_cons_succ]
            refine wpAnyH_take (i := 32) (v := ?vv50) (by rfl) (by kernel_rfl) (by kernel_rfl) (by kernel_rfl) (by intro _ _ _ h; exact h) (Or.inl ⟨by kernel_rfl, ?hy50⟩) (by assumption) ?rest50
            case hy50 =>
              intro w' hSw
              have hSw : Keeps y9 w' := hSw
              clear hSw
              go_simp
              try with_reducible rfl
            change wpAnyH _ _ _ _ _ _ _ (Act.put _ (some 12) _) _
            try simp only [Act.put, List.setIfInBounds_toArray, List.set_cons_zero, List.set_cons_succ]
            refine wpAnyH_done (by kernel_rfl) ?_ _
            refine NoPanic.normal ?_
            go_wp2_with fail
            go_ret
            exact ⟨rfl, HK.out.trans hHeld⟩
          exact AllReadyH.nil
        exact AllReadyH.nil
      · rw [HTN.out hc] at ht
        clear HTN HTM HSZ hcr HEO HNX
        have HT := Lib.hid ht
        clear ht
        go_wp2_with (refine wpList_ld rfl recM HRB.out _ rfl rfl ?_)
        refine HT.out.mono ?_
        rintro e y7 ⟨rfl, hb, hm⟩
        have HB := Lib.hid hb
        have HK := Lib.hid (hm.keeps HK.out HGE.out)
        have HN := Lib.hid (next_any y7 HB.out)
        clear hb hm HT
        go_wp2_with fail
        refine HN.out.mono ?_
        rintro e y8 ⟨rfl, rfl⟩
        go_wp2_with fail
        go_ret
        exact ⟨rfl, HK.out⟩
end Mbx
end Go.Proofs.Ytekkjhjaacjhnaa
