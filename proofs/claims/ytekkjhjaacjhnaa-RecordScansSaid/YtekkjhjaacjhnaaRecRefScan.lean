/- The reference's Scan of records. -/
import Derived.Test.YtekkjhjaacjhnaaRecScan
import Derived.Test.YtekkjhjaacjhnaaRecRef4
import Derived.Test.YtekkjhjaacjhnaaFrameRefScan
namespace Go.Proofs.Ytekkjhjaacjhnaa
open Go.RowKit
namespace Rcd
open Oct Frm

/-- what is found, in a struct -/
def RLotDid (W : World) (l : List UInt8) (e : Ending) (w' : World) : Prop :=
  ∃ p c fl, e = .returned (.agg #[.slice p fl.length c, .int .i64 ((l.length : Int) - lenL (scanR l).1)]) ∧ FndsAt w' W.heap.size (.slice p fl.length c) fl ∧ fl.map (·.1) = fndL (scanR l).1 ∧ Keeps W w'
theorem lotM : Mids Try.prog 77 2 := ⟨⟨_, Try.underlying77, rfl⟩, by kernel_rfl⟩
theorem FndsAt.grownX {w w' : World} {base g : Nat} {t : TypeId} {cs : Array Value} {v : Value} {l : List (Fnd × Value)} (h : FndsAt w base v l) (hb : Blk w g t cs) (h1 : t ≠ 5) (h2 : t ≠ 82) (hM : Mods (· = g) w w') : FndsAt w' base v l := by
  refine h.mods hM ?_ ?_
  all_goals
    rintro x rfl cs' fr hx
    unfold Blk at hb
    rw [hb] at hx
    simp only [Option.some.injEq, Obj.cells.injEq] at hx
    first | exact h1 hx.2.1 | exact h2 hx.2.1

/-- the result's block, the struct's, the list's value, the frames -/
structure SSt (w0 w : World) (R : Nat) (lv ov : Value) (br : Int) (ol : List (Fnd × Value)) (fv : Value) (fl : List (Fr1 × Value)) : Prop where
  keeps : Keeps w0 w
  res : Blk w R 77 #[.slice none 0 0, .int .i64 0]
  blk : Blk w (R + 1) 77 #[lv, .int .i64 br]
  fnds : FndsAt w w0.heap.size ov ol
  frames : FramesAt w w0.heap.size fv fl
section
variable {w0 w w' : World} {R : Nat} {lv ov : Value} {br : Int} {ol : List (Fnd × Value)} {fv : Value} {fl : List (Fr1 × Value)}
theorem SSt.kept (h : SSt w0 w R lv ov br ol fv fl) (k : Keeps w w') : SSt w0 w' R lv ov br ol fv fl := ⟨h.keeps.trans k, h.res.keeps k, h.blk.keeps k, h.fnds.keeps k, h.frames.keeps k⟩
theorem SSt.snoc {ov' : Value} {f : Fnd} {pv : Value} (h : SSt w0 w R lv ov br ol fv fl) (hp : Piece w w0.heap.size 5 pv (f.rc.data.map u8v)) (ho : w'.ownsRow w0.heap.size 82 14 ov' (ol.length + 1) (ol.flatMap fndC ++ fndC (f, pv))) (hg : w.grownBy w' ov.ownBlock) : SSt w0 w' R lv ov' br (ol ++ [(f, pv)]) fv fl :=
  ⟨h.keeps.grown hg (ownsRow_base h.fnds.own), h.res.grown hg (ownsRow_ne h.fnds.own h.res (by decide)), h.blk.grown hg (ownsRow_ne h.fnds.own h.blk (by decide)), h.fnds.snoc hp ho hg, framesGrown h.frames h.fnds.own (by decide) (by decide) hg⟩
theorem SSt.set (h : SSt w0 w R lv ov br ol fv fl) (hR : w0.heap.size ≤ R) {u u0 u1 : Value} {i : Nat} (hi : #[lv, .int .i64 br].setIfInBounds i u = #[u0, u1]) : Keeps w0 (w.setCell ⟨R + 1, i, none⟩ u) ∧ Blk (w.setCell ⟨R + 1, i, none⟩ u) R 77 #[.slice none 0 0, .int .i64 0] ∧ Blk (w.setCell ⟨R + 1, i, none⟩ u) (R + 1) 77 #[u0, u1] ∧ FndsAt (w.setCell ⟨R + 1, i, none⟩ u) w0.heap.size ov ol ∧ FramesAt (w.setCell ⟨R + 1, i, none⟩ u) w0.heap.size fv fl := by
  have hM : Mods (· = R + 1) w (w.setCell ⟨R + 1, i, none⟩ u) := (Mods.refl (· = R + 1) w).setCell (p := ⟨R + 1, i, none⟩) (fun _ => rfl) u
  have hb := h.blk.set_ i u
  rw [hi] at hb
  exact ⟨h.keeps.setCell (p := ⟨R + 1, i, none⟩) (by show _ ≤ R + 1; omega) u, h.res.far (p := ⟨R + 1, i, none⟩) (by show R ≠ R + 1; omega) u, hb, h.fnds.grownX h.blk (by decide) (by decide) hM, h.frames.modsX h.blk (by decide) (by decide) hM⟩
theorem SSt.setL (h : SSt w0 w R lv ov br ol fv fl) (hR : w0.heap.size ≤ R) : SSt w0 (w.setCell ⟨R + 1, 0, none⟩ ov) R ov ov br ol fv fl :=
  let ⟨h1, h2, h3, h4, h5⟩ := h.set hR (u := ov) (i := 0) (u0 := ov) (u1 := .int .i64 br) rfl
  ⟨h1, h2, h3, h4, h5⟩
theorem SSt.setB (h : SSt w0 w R lv ov br ol fv fl) (hR : w0.heap.size ≤ R) (br' : Int) : SSt w0 (w.setCell ⟨R + 1, 1, none⟩ (.int .i64 br')) R lv ov br' ol fv fl :=
  let ⟨h1, h2, h3, h4, h5⟩ := h.set hR (u := .int .i64 br') (i := 1) (u0 := lv) (u1 := .int .i64 br') rfl
  ⟨h1, h2, h3, h4, h5⟩
end

set_option maxRecDepth 100000 in
set_option maxHeartbeats 4000000 in
theorem rcRefScan_any (v : Value) (l : List UInt8) (w : World) (hr : Row w v (l.map u8v)) (hl : l.length ≤ 549755813887) : Calls Try.prog 46 #[v] w (RLotDid w l) := by
  obtain ⟨pv, cv, rfl, hc1, hc2⟩ := hr.formB
  have HSC := Lib.hid (fun w' (k : Keeps w w') => rScan_any (.slice pv l.length cv) l w' (hr.keeps k) (by omega))
  obtain ⟨hin, -⟩ := scanN_in l l.length 0 0 (Nat.zero_le _) (Nat.le_refl _)
  have HIN : Hid (∀ f ∈ (scanR l).1, 0 ≤ f.len ∧ f.len ≤ l.length ∧ f.pay.length ≤ l.length) := Lib.hid hin
  have HLT := Lib.hid (lenL_take l)
  have HCN : Hid ((scanR l).1.length ≤ l.length) := Lib.hid (scanN_count l l.length 0 0).1
  clear hr hin
  unfold RLotDid
  generalize scanR l = x at *
  obtain ⟨fs, gs⟩ := x
  go_enter Try.func46, Try.ntmps46
  go_upto_region 2 with fail
  generalize hW : World.alloc (World.alloc w _) _ = w1
  have HK := Lib.hid (show Keeps w w1 from by rw [← hW]; exact ((Keeps.refl _).alloc _).alloc _)
  have HR := Lib.hid (show Blk w1 w.heap.size 77 #[.slice none 0 0, .int .i64 0] from by rw [← hW]; exact (Blk.new _ _ _ rfl).alloc _)
  have HX := Lib.hid (show Blk w1 (w.heap.size + 1) 77 #[.slice none 0 0, .int .i64 (l.length : Int)] from by rw [← hW]; exact Blk.new _ _ _ (by rw [asz]))
  clear hW
  obtain ⟨R, hR⟩ : ∃ R, R = w.heap.size := ⟨_, rfl⟩
  rw [← hR] at HR HX ⊢
  have HRr := Lib.hid hR
  clear hR
  go_wp2_with fail
  refine (HSC.out w1 HK.out).mono ?_
  rintro e w2 ⟨v2, fl, gv, rfl, hf2, hm2, hg2, hk2⟩
  have hlen : fl.length = fs.length := by have := congrArg List.length hm2; simpa using this
  obtain ⟨p1, c1, rfl, -, -⟩ := ownsRow_form hf2.own
  obtain ⟨p2, n2, c2, rfl⟩ : ∃ p n c, gv = .slice p n c := let ⟨p, c, h, _⟩ := ownsRow_form hg2; ⟨p, _, c, h⟩
  rw [hlen] at hf2 ⊢
  have HF2 : Hid (FramesAt w2 w.heap.size (.slice p1 fs.length c1) fl) := Lib.hid ⟨ownsRow_lower hf2.own HK.out.size, fun x hx => (hf2.pay x hx).lower HK.out.size⟩
  have HM2 := Lib.hid hm2
  have HLen := Lib.hid hlen
  have HKw := Lib.hid (HK.out.trans hk2)
  have HR := Lib.hid (HR.out.keeps hk2)
  have HX := Lib.hid (HX.out.keeps hk2)
  clear hf2 hm2 hg2 hk2 HSC hlen HK
  have hfd : ∀ w, (Instr.field 163 (.agg #[.slice p1 fs.length c1, .slice p2 n2 c2]) 0).run Try.prog w = .ok (.slice p1 fs.length c1) w := fun w => by rfl
  go_wp2_with fail
  go_loopw [5] (fun i wr => ∃ (j : Nat) (ol : List (Fnd × Value)) (p : Option Addr) (c : Nat), i = .int .i64 (j : Int) ∧ j ≤ fs.length ∧ Hid (SSt w wr R (.slice p ol.length c) (.slice p ol.length c) ((l.length : Int) - lenL (fs.take j)) ol (.slice p1 fs.length c1) fl ∧ ol.map (·.1) = fndL (fs.take j))) (fun i _ => fs.length - (intOf i).toNat)
  case atStart => exact ⟨0, [], none, 0, rfl, Nat.zero_le _, Lib.hid ⟨⟨HKw.out, HR.out, by simpa [lenL] using HX.out, FndsAt.nil _ _, HF2.out⟩, rfl⟩⟩
  case round =>
    obtain ⟨j, ol, po, co, rfl, hj, HH⟩ := hrel
    clear HR HX HF2 HKw
    by_cases hlt : j < fs.length
    · have hlt1 : j < fl.length := by rw [HLen.out]; exact hlt
      obtain ⟨g, rfl, ⟨a0, a1, a2, a3⟩, -⟩ := HH.out.1.frames.one hlt1
      have hpc := HH.out.1.frames.pay _ (List.getElem_mem hlt1)
      have hfe : fl[j].1 = fs[j] := by
        have h := congrArg (fun l => l[j]?) HM2.out
        simp only [List.getElem?_map, List.getElem?_eq_getElem hlt1, List.getElem?_eq_getElem hlt, Option.map_some, Option.some.injEq] at h
        exact h
      rw [hfe] at a0 a1 a2 hpc
      have hb := HIN.out fs[j] (List.getElem_mem hlt)
      have HN := Lib.hid (fndL_next hlt)
      have HL := Lib.hid (lenL_next hlt)
      have hlj := HLT.out j
      have hlj1 := HLT.out (j + 1)
      have HOL : Hid (ol.length ≤ fs.length) := Lib.hid (by
        have h1 := congrArg List.length HH.out.2
        have h2 := fndL_len (fs.take j)
        rw [List.length_map] at h1
        rw [List.length_take] at h2
        omega)
      obtain ⟨pp, cp, hpp, -, -⟩ := hpc.row.formB
      rw [hpp] at a3 hpc
      have HPC := Lib.hid hpc
      clear hfe hpp hpc
      generalize fs[j] = f at *
      generalize fl[j].2 = fv at *
      have hcn := HCN.out
      have HC := Lib.hid (fun w' (k : Keeps wr w') => rRead_any f.kind (.slice pp f.pay.length cp) f.pay w' (HPC.out.row.keeps k))
      unfold RReadDid at HC
      have HFO : Hid (fndOf f = if readE f.kind f.pay = 0 then [⟨f.at', f.len, readR f.kind f.pay⟩] else []) := Lib.hid rfl
      generalize readR f.kind f.pay = rr at *
      generalize readE f.kind f.pay = er at *
      go_upto_region 6 with fail
      go_cut [6, 7] (fun pq e wx => ∃ (b : Nat) (pd : Option Addr) (nd cd : Nat), pq = .pointer (some ⟨b, 0, none⟩) ∧ e = .int .i64 er ∧ Hid (wr.heap.size ≤ b ∧ Keeps wr wx ∧ Blk wx b 30 (recA rr (.slice pd nd cd)) ∧ Piece wx w.heap.size 5 (.slice pd nd cd) (rr.data.map u8v)))
      case first =>
        as_aux_lemma =>
          refine wp_region_noPanic ?_
          refine wp_region_held_drew (S := fun w' => Keeps wr w') (by kernel_rfl) ((Keeps.refl wr).drew) (fun _ => ?_)
          have hHeld : Keeps wr (wr).drew := (Keeps.refl wr).drew
          generalize World.drew wr = xs at *
          refine wpAnyH_take (i := 0) (v := ?vv1) (by rfl) (by kernel_rfl) (by kernel_rfl) (by kernel_rfl) (by intro _ _ _ h; exact h) (Or.inl ⟨by kernel_rfl, ?hy1⟩) (by assumption) ?rest1
          case hy1 =>
            intro w' hSw
            have hSw : Keeps wr w' := hSw
            clear hSw
            go_simp
            try with_reducible rfl
          change wpAnyH _ _ _ _ _ _ _ (Act.put _ (some 21) _) _
          try simp only [Act.put, List.setIfInBounds_toArray, List.set_cons_zero, List.set_cons_succ]
          refine wpAnyH_take (i := 1) (v := ?vv2) (by rfl) (by kernel_rfl) (by kernel_rfl) (by kernel_rfl) (by intro _ _ _ h; exact h) (Or.inl ⟨by kernel_rfl, ?hy2⟩) (by assumption) ?rest2
          case hy2 =>
            intro w' hSw
            have hSw : Keeps wr w' := hSw
            clear hSw
            go_simp
            try with_reducible rfl
          change wpAnyH _ _ _ _ _ _ _ (Act.put _ (some 22) _) _
          try simp only [Act.put, List.setIfInBounds_toArray, List.set_cons_zero, List.set_cons_succ]
          refine wpAnyH_take (i := 2) (v := ?vv3) (by rfl) (by kernel_rfl) (by kernel_rfl) (by kernel_rfl) (by intro _ _ _ h; exact h) (Or.inl ⟨by kernel_rfl, ?hy3⟩) (by assumption) ?rest3
          case hy3 =>
            intro w' hSw
            have hSw : Keeps wr w' := hSw
            clear hSw
            go_simp
            try with_reducible rfl
          change wpAnyH _ _ _ _ _ _ _ (Act.put _ (some 23) _) _
          try simp only [Act.put, List.setIfInBounds_toArray, List.set_cons_zero, List.set_cons_succ]
          refine wpAnyH_take (i := 3) (v := ?vv4) (by rfl) (by kernel_rfl) (by kernel_rfl) (by kernel_rfl) (by intro _ _ _ h; exact h) (Or.inl ⟨by kernel_rfl, ?hy4⟩) (by assumption) ?rest4
          case hy4 =>
            intro w' hSw
            have hSw : Keeps wr w' := hSw
            clear hSw
            go_simp
            try with_reducible rfl
          change wpAnyH _ _ _ _ _ _ _ (Act.put _ (some 24) _) _
          try simp only [Act.put, List.setIfInBounds_toArray, List.set_cons_zero, List.set_cons_succ]
          refine wpAnyH_take (i := 4) (v := ?vv5) (by rfl) (by kernel_rfl) (by kernel_rfl) (by kernel_rfl) (by intro _ _ _ h; exact h) (Or.inl ⟨by kernel_rfl, ?hy5⟩) (by assumption) ?rest5
          case hy5 =>
            intro w' hSw
            have hSw : Keeps wr w' := hSw
            have h0 := keep1 hSw a2
            clear hSw
            go_simp
            try with_reducible rfl
          change wpAnyH _ _ _ _ _ _ _ (Act.put _ (some 25) _) _
          try simp only [Act.put, List.setIfInBounds_toArray, List.set_cons_zero, List.set_cons_succ]
          refine wpAnyH_take (i := 5) (v := ?vv6) (by rfl) (by kernel_rfl) (by kernel_rfl) (by kernel_rfl) (by intro _ _ _ h; exact h) (Or.inl ⟨by kernel_rfl, ?hy6⟩) (by assumption) ?rest6
          case hy6 =>
            intro w' hSw
            have hSw : Keeps wr w' := hSw
            clear hSw
            go_simp
            try with_reducible rfl
          change wpAnyH _ _ _ _ _ _ _ (Act.put _ (some 26) _) _
          try simp only [Act.put, List.setIfInBounds_toArray, List.set_cons_zero, List.set_cons_succ]
          refine wpAnyH_take (i := 6) (v := ?vv7) (by rfl) (by kernel_rfl) (by kernel_rfl) (by kernel_rfl) (by intro _ _ _ h; exact h) (Or.inl ⟨by kernel_rfl, ?hy7⟩) (by assumption) ?rest7
          case hy7 =>
            intro w' hSw
            have hSw : Keeps wr w' := hSw
            clear hSw
            go_simp
            try with_reducible rfl
          change wpAnyH _ _ _ _ _ _ _ (Act.put _ (some 27) _) _
          try simp only [Act.put, List.setIfInBounds_toArray, List.set_cons_zero, List.set_cons_succ]
          refine wpAnyH_take (i := 7) (v := ?vv8) (by rfl) (by kernel_rfl) (by kernel_rfl) (by kernel_rfl) (by intro _ _ _ h; exact h) (Or.inl ⟨by kernel_rfl, ?hy8⟩) (by assumption) ?rest8
          case hy8 =>
            intro w' hSw
            have hSw : Keeps wr w' := hSw
            clear hSw
            go_simp
            try with_reducible rfl
          change wpAnyH _ _ _ _ _ _ _ (Act.put _ (some 28) _) _
          try simp only [Act.put, List.setIfInBounds_toArray, List.set_cons_zero, List.set_cons_succ]
          refine wpAnyH_take (i := 8) (v := ?vv9) (by rfl) (by kernel_rfl) (by kernel_rfl) (by kernel_rfl) (by intro _ _ _ h; exact h) (Or.inl ⟨by kernel_rfl, ?hy9⟩) (by assumption) ?rest9
          case hy9 =>
            intro w' hSw
            have hSw : Keeps wr w' := hSw
            clear hSw
            go_simp
            try with_reducible rfl
          change wpAnyH _ _ _ _ _ _ _ (Act.put _ (some 29) _) _
          try simp only [Act.put, List.setIfInBounds_toArray, List.set_cons_zero, List.set_cons_succ]
          refine wpAnyH_take (i := 9) (v := ?vv10) (by rfl) (by kernel_rfl) (by kernel_rfl) (by kernel_rfl) (by intro _ _ _ h; exact h) (Or.inl ⟨by kernel_rfl, ?hy10⟩) (by assumption) ?rest10
          case hy10 =>
            intro w' hSw
            have hSw : Keeps wr w' := hSw
            have h0 := keep1 hSw a3
            clear hSw
            go_simp
            try with_reducible rfl
          change wpAnyH _ _ _ _ _ _ _ (Act.put _ (some 30) _) _
          try simp only [Act.put, List.setIfInBounds_toArray, List.set_cons_zero, List.set_cons_succ]
          refine wpAnyH_ready (rs := [10, 14]) (by kernel_rfl) (by simp) ?_
          refine AllReadyH.cons (o := _) rfl (fun K hK => ?_) ?_
          · go_simp
            refine (HC.out _ hHeld).mono ?_
            rintro e yA ⟨pd, nd, cd, rfl, -, hpc, hk⟩
            have hb := hHeld.trans hk
            have HPd := Lib.hid ((hpc _ (HPC.out.keeps hHeld)).keeps hk)
            clear hpc hk
            go_wp2_with fail
            refine hK.out _ _ hb (fun _ => ?_)
            clear hK K hHeld
            have hHeld : Keeps wr yA := hb
            clear hb
            try simp only [Act.put, List.setIfInBounds_toArray, List.set_cons_zero, List.set_cons_succ]
            refine wpAnyH_take (i := 11) (v := ?vv11) (by rfl) (by kernel_rfl) (by kernel_rfl) (by kernel_rfl) (by intro _ _ _ h; exact h) (Or.inl ⟨by kernel_rfl, ?hy11⟩) (by assumption) ?rest11
            case hy11 =>
              intro w' hSw
              have hSw : Keeps wr w' := hSw
              clear hSw
              go_simp
              try with_reducible rfl
            change wpAnyH _ _ _ _ _ _ _ (Act.put _ (some 20) _) _
            try simp only [Act.put, List.setIfInBounds_toArray, List.set_cons_zero, List.set_cons_succ]
            refine wpAnyH_take (i := 12) (v := ?vv12) (by rfl) (by kernel_rfl) (by kernel_rfl) (by kernel_rfl) (by intro _ _ _ h; exact h) (Or.inl ⟨by kernel_rfl, ?hy12⟩) (by assumption) ?rest12
            case hy12 =>
              intro w' hSw
              have hSw : Keeps wr w' := hSw
              clear hSw
              go_simp
              try with_reducible rfl
            change wpAnyH _ _ _ _ _ _ _ (Act.put _ (some 32) _) _
            try simp only [Act.put, List.setIfInBounds_toArray, List.set_cons_zero, List.set_cons_succ]
            refine wpAnyH_take (i := 13) (v := ?vv13) (by rfl) (by kernel_rfl) (by kernel_rfl) (by kernel_rfl) (by intro _ _ _ h; exact h) (Or.inl ⟨by kernel_rfl, ?hy13⟩) (by assumption) ?rest13
            case hy13 =>
              intro w' hSw
              have hSw : Keeps wr w' := hSw
              clear hSw
              go_simp
              try with_reducible rfl
            change wpAnyH _ _ _ _ _ _ _ (Act.put _ (some 33) _) _
            try simp only [Act.put, List.setIfInBounds_toArray, List.set_cons_zero, List.set_cons_succ]
            refine wpAnyH_ready (rs := [14]) (by kernel_rfl) (by simp) ?_
            refine AllReadyH.cons (o := _) rfl (fun K hK => ?_) ?_
            · go_simp
              obtain ⟨b, hb0⟩ : ∃ b, b = (World.heap yA).size := ⟨_, rfl⟩
              have hbs : wr.heap.size ≤ b := by rw [hb0]; exact hHeld.size
              rw [← hb0]
              have HBb := Lib.hid (show Blk (World.alloc yA (.cells zero12 30)) b 30 zero12 from Blk.new _ _ _ hb0)
              have HPd := Lib.hid (HPd.out.keeps ((Keeps.refl yA).alloc (.cells zero12 30)))
              have hb := hHeld.alloc (.cells zero12 30)
              clear hb0
              unfold zero12 at hb HPd HBb
              generalize World.alloc yA _ = yB at *
              refine hK.out _ _ hb (fun _ => ?_)
              clear hK K hHeld
              have hHeld : Keeps wr yB := hb
              clear hb
              try simp only [Act.put, List.setIfInBounds_toArray, List.set_cons_zero, List.set_cons_succ]
              refine wpAnyH_ready (rs := [15]) (by kernel_rfl) (by simp) ?_
              refine AllReadyH.cons (o := _) rfl (fun K hK => ?_) ?_
              · refine step_st (ds := recA rr (.slice pd nd cd)) rfl recM HBb.out rfl (recA_one _ _ _ _) _ _ rfl rfl rfl rfl ?_
                intro yF hBF hMF
                have hb := hMF.keeps hHeld (fun x hx => by omega)
                have HPd := Lib.hid (HPd.out.modsT hMF (fun x hx cs fr hc => by subst hx; have h := HBb.out; unfold Blk at h; rw [h] at hc; simp at hc))
                have HBb := Lib.hid hBF
                clear hBF hMF
                refine hK.out _ _ hb (fun _ => ?_)
                clear hK K hHeld
                have hHeld : Keeps wr yF := hb
                clear hb
                try simp only [Act.put, List.setIfInBounds_toArray, List.set_cons_zero, List.set_cons_succ]
                refine wpAnyH_take (i := 16) (v := ?vv14) (by rfl) (by kernel_rfl) (by kernel_rfl) (by kernel_rfl) (by intro _ _ _ h; exact h) (Or.inl ⟨by kernel_rfl, ?hy14⟩) (by assumption) ?rest14
                case hy14 =>
                  intro w' hSw
                  have hSw : Keeps wr w' := hSw
                  clear hSw
                  go_simp
                  try with_reducible rfl
                change wpAnyH _ _ _ _ _ _ _ (Act.put _ (some 7) _) _
                try simp only [Act.put, List.setIfInBounds_toArray, List.set_cons_zero, List.set_cons_succ]
                refine wpAnyH_done (by kernel_rfl) ?_ _
                refine NoPanic.normal ?_
                go_wp2_with fail
                go_meet
                exact ⟨b, pd, nd, cd, rfl, rfl, Lib.hid ⟨hbs, hHeld, HBb.out, HPd.out⟩⟩
              exact AllReadyH.nil
            exact AllReadyH.nil
          refine AllReadyH.cons (o := _) rfl (fun K hK => ?_) ?_
          · go_simp
            obtain ⟨b, hb0⟩ : ∃ b, b = (World.heap xs).size := ⟨_, rfl⟩
            have hbs : wr.heap.size ≤ b := by rw [hb0]; exact hHeld.size
            rw [← hb0]
            have HBb := Lib.hid (show Blk (World.alloc xs (.cells zero12 30)) b 30 zero12 from Blk.new _ _ _ hb0)
            have hb := hHeld.alloc (.cells zero12 30)
            clear hb0
            unfold zero12 at hb HBb
            generalize World.alloc xs _ = yB at *
            refine hK.out _ _ hb (fun _ => ?_)
            clear hK K hHeld
            have hHeld : Keeps wr yB := hb
            clear hb
            try simp only [Act.put, List.setIfInBounds_toArray, List.set_cons_zero, List.set_cons_succ]
            refine wpAnyH_ready (rs := [10]) (by kernel_rfl) (by simp) ?_
            refine AllReadyH.cons (o := _) rfl (fun K hK => ?_) ?_
            · go_simp
              refine (HC.out _ hHeld).mono ?_
              rintro e yA ⟨pd, nd, cd, rfl, -, hpc, hk⟩
              have hb := hHeld.trans hk
              have HPd := Lib.hid ((hpc _ (HPC.out.keeps hHeld)).keeps hk)
              have HBb := Lib.hid (HBb.out.keeps hk)
              clear hpc hk
              go_wp2_with fail
              refine hK.out _ _ hb (fun _ => ?_)
              clear hK K hHeld
              have hHeld : Keeps wr yA := hb
              clear hb
              try simp only [Act.put, List.setIfInBounds_toArray, List.set_cons_zero, List.set_cons_succ]
              refine wpAnyH_take (i := 11) (v := ?vv15) (by rfl) (by kernel_rfl) (by kernel_rfl) (by kernel_rfl) (by intro _ _ _ h; exact h) (Or.inl ⟨by kernel_rfl, ?hy15⟩) (by assumption) ?rest15
              case hy15 =>
                intro w' hSw
                have hSw : Keeps wr w' := hSw
                clear hSw
                go_simp
                try with_reducible rfl
              change wpAnyH _ _ _ _ _ _ _ (Act.put _ (some 20) _) _
              try simp only [Act.put, List.setIfInBounds_toArray, List.set_cons_zero, List.set_cons_succ]
              refine wpAnyH_take (i := 12) (v := ?vv16) (by rfl) (by kernel_rfl) (by kernel_rfl) (by kernel_rfl) (by intro _ _ _ h; exact h) (Or.inl ⟨by kernel_rfl, ?hy16⟩) (by assumption) ?rest16
              case hy16 =>
                intro w' hSw
                have hSw : Keeps wr w' := hSw
                clear hSw
                go_simp
                try with_reducible rfl
              change wpAnyH _ _ _ _ _ _ _ (Act.put _ (some 32) _) _
              try simp only [Act.put, List.setIfInBounds_toArray, List.set_cons_zero, List.set_cons_succ]
              refine wpAnyH_take (i := 13) (v := ?vv17) (by rfl) (by kernel_rfl) (by kernel_rfl) (by kernel_rfl) (by intro _ _ _ h; exact h) (Or.inl ⟨by kernel_rfl, ?hy17⟩) (by assumption) ?rest17
              case hy17 =>
                intro w' hSw
                have hSw : Keeps wr w' := hSw
                clear hSw
                go_simp
                try with_reducible rfl
              change wpAnyH _ _ _ _ _ _ _ (Act.put _ (some 33) _) _
              try simp only [Act.put, List.setIfInBounds_toArray, List.set_cons_zero, List.set_cons_succ]
              refine wpAnyH_ready (rs := [15]) (by kernel_rfl) (by simp) ?_
              refine AllReadyH.cons (o := _) rfl (fun K hK => ?_) ?_
              · refine step_st (ds := recA rr (.slice pd nd cd)) rfl recM HBb.out rfl (recA_one _ _ _ _) _ _ rfl rfl rfl rfl ?_
                intro yF hBF hMF
                have hb := hMF.keeps hHeld (fun x hx => by omega)
                have HPd := Lib.hid (HPd.out.modsT hMF (fun x hx cs fr hc => by subst hx; have h := HBb.out; unfold Blk at h; rw [h] at hc; simp at hc))
                have HBb := Lib.hid hBF
                clear hBF hMF
                refine hK.out _ _ hb (fun _ => ?_)
                clear hK K hHeld
                have hHeld : Keeps wr yF := hb
                clear hb
                try simp only [Act.put, List.setIfInBounds_toArray, List.set_cons_zero, List.set_cons_succ]
                refine wpAnyH_take (i := 16) (v := ?vv18) (by rfl) (by kernel_rfl) (by kernel_rfl) (by kernel_rfl) (by intro _ _ _ h; exact h) (Or.inl ⟨by kernel_rfl, ?hy18⟩) (by assumption) ?rest18
                case hy18 =>
                  intro w' hSw
                  have hSw : Keeps wr w' := hSw
                  clear hSw
                  go_simp
                  try with_reducible rfl
                change wpAnyH _ _ _ _ _ _ _ (Act.put _ (some 7) _) _
                try simp only [Act.put, List.setIfInBounds_toArray, List.set_cons_zero, List.set_cons_succ]
                refine wpAnyH_done (by kernel_rfl) ?_ _
                refine NoPanic.normal ?_
                go_wp2_with fail
                go_meet
                exact ⟨b, pd, nd, cd, rfl, rfl, Lib.hid ⟨hbs, hHeld, HBb.out, HPd.out⟩⟩
              exact AllReadyH.nil
            exact AllReadyH.nil
          exact AllReadyH.nil
      case rest =>
      obtain ⟨b, pd, nd, cd, rfl, rfl, HB⟩ := hcut
      obtain ⟨wz, rfl⟩ : ∃ wz : World, wz = wc := ⟨_, rfl⟩
      have HS := Lib.hid (HH.out.1.kept HB.out.2.1)
      have HO := Lib.hid HH.out.2
      have hbl := HH.out.1.blk.lt
      have a0 := keep1 HB.out.2.1 a0
      have a1 := keep1 HB.out.2.1 a1
      have hbge := HB.out.1
      have HP := Lib.hid HB.out.2.2.2
      have HBb := Lib.hid HB.out.2.2.1
      have hRr : w.heap.size ≤ R := by rw [HRr.out]; exact Nat.le_refl _
      clear a2 a3 HH HB
      by_cases he : er = 0
      · subst he
        have HN' : Hid (fndL (fs.take (j + 1)) = fndL (fs.take j) ++ [⟨f.at', f.len, rr⟩]) := Lib.hid (by rw [HN.out, HFO.out, if_pos rfl])
        have HL' : Hid (lenL (fs.take (j + 1)) = lenL (fs.take j) + f.len) := Lib.hid (by rw [HL.out, if_pos rfl])
        have hwp : IntKind.i64.wrap ((l.length : Int) - lenL (fs.take j) - f.len) = (l.length : Int) - lenL (fs.take j) - f.len := by rw [IntKind.wrap_i64]; rw [HL'.out] at hlj1; omega
        clear HN HL HFO HC
        have hne1 : ¬ (b = R + 1 ∨ (Value.slice po ol.length co).ownBlock = some b) := by
          rintro (h | h)
          · omega
          · exact ownsRow_ne HS.out.fnds.own HBb.out (by decide) h
        have hne2 : ¬ (g = R + 1 ∨ (Value.slice po ol.length co).ownBlock = some g) := by
          rintro (h | h)
          · exact ownsRow_ne HS.out.frames.own HS.out.blk (by decide) (by rw [← h]; rfl)
          · rcases HS.out.frames.own.2 with ⟨hx, _⟩ | ⟨g', _, cur, hx, _, hgg, _⟩
            · simp at hx
            · simp only [Value.slice.injEq, Option.some.injEq, Addr.mk.injEq] at hx
              obtain ⟨⟨rfl, -, -⟩, -, -⟩ := hx
              exact ownsRow_ty HS.out.fnds.own (e' := 161) (by decide) _ h _ _ hgg
        obtain ⟨r0, r1, r2, r3, r4, r5, r6, r7, r8, r9, r10, r11⟩ := rec12 HBb.out
        have HOL' := HOL.out
        have HSd := Lib.hid (HS.out.kept (Keeps.refl wz).drew)
        have HPd := Lib.hid (HP.out.keeps (Keeps.refl wz).drew)
        have HKz := Lib.hid HS.out.keeps
        clear HS HP HBb
        go_upto_region 8 with fail
        go_cut [51] (fun _ wx => ∃ (p9 : Option Addr) (c9 : Nat), Hid (wx.cell? ⟨g, j * 4 + 1, none⟩ = some (.int .i64 f.len) ∧ SSt w wx R (.slice p9 (ol.length + 1) c9) (.slice p9 (ol.length + 1) c9) ((l.length : Int) - lenL (fs.take j)) (ol ++ [(⟨f.at', f.len, rr⟩, .slice pd nd cd)]) (.slice (some ⟨g, 0, none⟩) fs.length c1) fl))
        case first =>
            refine wp_region_noPanic ?_
            refine wp_region_held_drew (S := fun w' => Mods (fun x => x = R + 1 ∨ (Value.slice po ol.length co).ownBlock = some x) wz w') (by kernel_rfl) ((Mods.refl (fun x => x = R + 1 ∨ (Value.slice po ol.length co).ownBlock = some x) wz).drew) (fun _ => ?_)
            have hHeld : Mods (fun x => x = R + 1 ∨ (Value.slice po ol.length co).ownBlock = some x) wz (wz).drew := (Mods.refl (fun x => x = R + 1 ∨ (Value.slice po ol.length co).ownBlock = some x) wz).drew
            generalize World.drew wz = xs at *
            refine wpAnyH_take (i := 0) (v := ?vv19) (by rfl) (by kernel_rfl) (by kernel_rfl) (by kernel_rfl) (by intro _ _ _ h; exact h) (Or.inl ⟨by kernel_rfl, ?hy19⟩) (by assumption) ?rest19
            case hy19 =>
              intro w' hSw
              have hSw : Mods (fun x => x = R + 1 ∨ (Value.slice po ol.length co).ownBlock = some x) wz w' := hSw
              clear hSw
              go_simp
              try with_reducible rfl
            change wpAnyH _ _ _ _ _ _ _ (Act.put _ (some 36) _) _
            try simp only [Act.put, List.setIfInBounds_toArray, List.set_cons_zero, List.set_cons_succ]
            refine wpAnyH_take (i := 2) (v := ?vv20) (by rfl) (by kernel_rfl) (by kernel_rfl) (by kernel_rfl) (by intro _ _ _ h; exact h) (Or.inl ⟨by kernel_rfl, ?hy20⟩) (by assumption) ?rest20
            case hy20 =>
              intro w' hSw
              have hSw : Mods (fun x => x = R + 1 ∨ (Value.slice po ol.length co).ownBlock = some x) wz w' := hSw
              clear hSw
              go_simp
              try with_reducible rfl
            change wpAnyH _ _ _ _ _ _ _ (Act.put _ (some 38) _) _
            try simp only [Act.put, List.setIfInBounds_toArray, List.set_cons_zero, List.set_cons_succ]
            refine wpAnyH_take (i := 3) (v := ?vv21) (by rfl) (by kernel_rfl) (by kernel_rfl) (by kernel_rfl) (by intro _ _ _ h; exact h) (Or.inl ⟨by kernel_rfl, ?hy21⟩) (by assumption) ?rest21
            case hy21 =>
              intro w' hSw
              have hSw : Mods (fun x => x = R + 1 ∨ (Value.slice po ol.length co).ownBlock = some x) wz w' := hSw
              clear hSw
              go_simp
              try with_reducible rfl
            change wpAnyH _ _ _ _ _ _ _ (Act.put _ (some 39) _) _
            try simp only [Act.put, List.setIfInBounds_toArray, List.set_cons_zero, List.set_cons_succ]
            refine wpAnyH_take (i := 4) (v := ?vv22) (by rfl) (by kernel_rfl) (by kernel_rfl) (by kernel_rfl) (by intro _ _ _ h; exact h) (Or.inl ⟨by kernel_rfl, ?hy22⟩) (by assumption) ?rest22
            case hy22 =>
              intro w' hSw
              have hSw : Mods (fun x => x = R + 1 ∨ (Value.slice po ol.length co).ownBlock = some x) wz w' := hSw
              clear hSw
              go_simp
              try with_reducible rfl
            change wpAnyH _ _ _ _ _ _ _ (Act.put _ (some 40) _) _
            try simp only [Act.put, List.setIfInBounds_toArray, List.set_cons_zero, List.set_cons_succ]
            refine wpAnyH_take (i := 5) (v := ?vv23) (by rfl) (by kernel_rfl) (by kernel_rfl) (by kernel_rfl) (by intro _ _ _ h; exact h) (Or.inl ⟨by kernel_rfl, ?hy23⟩) (by assumption) ?rest23
            case hy23 =>
              intro w' hSw
              have hSw : Mods (fun x => x = R + 1 ∨ (Value.slice po ol.length co).ownBlock = some x) wz w' := hSw
              clear hSw
              go_simp
              try with_reducible rfl
            change wpAnyH _ _ _ _ _ _ _ (Act.put _ (some 41) _) _
            try simp only [Act.put, List.setIfInBounds_toArray, List.set_cons_zero, List.set_cons_succ]
            refine wpAnyH_take (i := 6) (v := ?vv24) (by rfl) (by kernel_rfl) (by kernel_rfl) (by kernel_rfl) (by intro _ _ _ h; exact h) (Or.inl ⟨by kernel_rfl, ?hy24⟩) (by assumption) ?rest24
            case hy24 =>
              intro w' hSw
              have hSw : Mods (fun x => x = R + 1 ∨ (Value.slice po ol.length co).ownBlock = some x) wz w' := hSw
              have h0 := hSw.cell a0 hne2
              clear hSw
              go_simp
              try with_reducible rfl
            change wpAnyH _ _ _ _ _ _ _ (Act.put _ (some 42) _) _
            try simp only [Act.put, List.setIfInBounds_toArray, List.set_cons_zero, List.set_cons_succ]
            refine wpAnyH_take (i := 7) (v := ?vv25) (by rfl) (by kernel_rfl) (by kernel_rfl) (by kernel_rfl) (by intro _ _ _ h; exact h) (Or.inl ⟨by kernel_rfl, ?hy25⟩) (by assumption) ?rest25
            case hy25 =>
              intro w' hSw
              have hSw : Mods (fun x => x = R + 1 ∨ (Value.slice po ol.length co).ownBlock = some x) wz w' := hSw
              clear hSw
              go_simp
              try with_reducible rfl
            change wpAnyH _ _ _ _ _ _ _ (Act.put _ (some 43) _) _
            try simp only [Act.put, List.setIfInBounds_toArray, List.set_cons_zero, List.set_cons_succ]
            refine wpAnyH_take (i := 8) (v := ?vv26) (by rfl) (by kernel_rfl) (by kernel_rfl) (by kernel_rfl) (by intro _ _ _ h; exact h) (Or.inl ⟨by kernel_rfl, ?hy26⟩) (by assumption) ?rest26
            case hy26 =>
              intro w' hSw
              have hSw : Mods (fun x => x = R + 1 ∨ (Value.slice po ol.length co).ownBlock = some x) wz w' := hSw
              clear hSw
              go_simp
              try with_reducible rfl
            change wpAnyH _ _ _ _ _ _ _ (Act.put _ (some 44) _) _
            try simp only [Act.put, List.setIfInBounds_toArray, List.set_cons_zero, List.set_cons_succ]
            refine wpAnyH_take (i := 9) (v := ?vv27) (by rfl) (by kernel_rfl) (by kernel_rfl) (by kernel_rfl) (by intro _ _ _ h; exact h) (Or.inl ⟨by kernel_rfl, ?hy27⟩) (by assumption) ?rest27
            case hy27 =>
              intro w' hSw
              have hSw : Mods (fun x => x = R + 1 ∨ (Value.slice po ol.length co).ownBlock = some x) wz w' := hSw
              clear hSw
              go_simp
              try with_reducible rfl
            change wpAnyH _ _ _ _ _ _ _ (Act.put _ (some 45) _) _
            try simp only [Act.put, List.setIfInBounds_toArray, List.set_cons_zero, List.set_cons_succ]
            refine wpAnyH_take (i := 10) (v := ?vv28) (by rfl) (by kernel_rfl) (by kernel_rfl) (by kernel_rfl) (by intro _ _ _ h; exact h) (Or.inl ⟨by kernel_rfl, ?hy28⟩) (by assumption) ?rest28
            case hy28 =>
              intro w' hSw
              have hSw : Mods (fun x => x = R + 1 ∨ (Value.slice po ol.length co).ownBlock = some x) wz w' := hSw
              clear hSw
              go_simp
              try with_reducible rfl
            change wpAnyH _ _ _ _ _ _ _ (Act.put _ (some 46) _) _
            try simp only [Act.put, List.setIfInBounds_toArray, List.set_cons_zero, List.set_cons_succ]
            refine wpAnyH_take (i := 11) (v := ?vv29) (by rfl) (by kernel_rfl) (by kernel_rfl) (by kernel_rfl) (by intro _ _ _ h; exact h) (Or.inl ⟨by kernel_rfl, ?hy29⟩) (by assumption) ?rest29
            case hy29 =>
              intro w' hSw
              have hSw : Mods (fun x => x = R + 1 ∨ (Value.slice po ol.length co).ownBlock = some x) wz w' := hSw
              have h0 := hSw.cell a1 hne2
              clear hSw
              go_simp
              try with_reducible rfl
            change wpAnyH _ _ _ _ _ _ _ (Act.put _ (some 47) _) _
            try simp only [Act.put, List.setIfInBounds_toArray, List.set_cons_zero, List.set_cons_succ]
            refine wpAnyH_take (i := 12) (v := ?vv30) (by rfl) (by kernel_rfl) (by kernel_rfl) (by kernel_rfl) (by intro _ _ _ h; exact h) (Or.inl ⟨by kernel_rfl, ?hy30⟩) (by assumption) ?rest30
            case hy30 =>
              intro w' hSw
              have hSw : Mods (fun x => x = R + 1 ∨ (Value.slice po ol.length co).ownBlock = some x) wz w' := hSw
              have h0 := hSw.cell r0 hne1
              have h1 := hSw.cell r1 hne1
              have h2 := hSw.cell r2 hne1
              have h3 := hSw.cell r3 hne1
              have h4 := hSw.cell r4 hne1
              have h5 := hSw.cell r5 hne1
              have h6 := hSw.cell r6 hne1
              have h7 := hSw.cell r7 hne1
              have h8 := hSw.cell r8 hne1
              have h9 := hSw.cell r9 hne1
              have h10 := hSw.cell r10 hne1
              have h11 := hSw.cell r11 hne1
              clear hSw
              go_simp
              try with_reducible rfl
            change wpAnyH _ _ _ _ _ _ _ (Act.put _ (some 48) _) _
            try simp only [Act.put, List.setIfInBounds_toArray, List.set_cons_zero, List.set_cons_succ]
            refine wpAnyH_take (i := 13) (v := ?vv31) (by rfl) (by kernel_rfl) (by kernel_rfl) (by kernel_rfl) (by intro _ _ _ h; exact h) (Or.inl ⟨by kernel_rfl, ?hy31⟩) (by assumption) ?rest31
            case hy31 =>
              intro w' hSw
              have hSw : Mods (fun x => x = R + 1 ∨ (Value.slice po ol.length co).ownBlock = some x) wz w' := hSw
              clear hSw
              go_simp
              try with_reducible rfl
            change wpAnyH _ _ _ _ _ _ _ (Act.put _ (some 49) _) _
            try simp only [Act.put, List.setIfInBounds_toArray, List.set_cons_zero, List.set_cons_succ]
            refine wpAnyH_ready (rs := [1, 14]) (by kernel_rfl) (by simp) ?_
            refine AllReadyH.cons (o := _) rfl (fun K hK => ?_) ?_
            · have hx : World.cell? xs ⟨R + 1, 0, none⟩ = some (.slice po ol.length co) := by rw [HSd.out.blk.cell]; rfl
              go_simp
              clear hx
              have hb := hHeld
              refine hK.out _ _ hb (fun _ => ?_)
              clear hK K hHeld
              have hHeld : Mods (fun x => x = R + 1 ∨ (Value.slice po ol.length co).ownBlock = some x) wz xs := hb
              clear hb
              try simp only [Act.put, List.setIfInBounds_toArray, List.set_cons_zero, List.set_cons_succ]
              refine wpAnyH_ready (rs := [14]) (by kernel_rfl) (by simp) ?_
              refine AllReadyH.cons (o := _) rfl (fun K hK => ?_) ?_
              · go_simp
                obtain ⟨b4, hb4⟩ : ∃ b, b = (World.heap xs).size := ⟨_, rfl⟩
                rw [← hb4]
                have HB4 := Lib.hid (show Blk (World.alloc xs (.cells (fndC (⟨f.at', f.len, rr⟩, .slice pd nd cd)).toArray 82)) b4 82 (fndC (⟨f.at', f.len, rr⟩, .slice pd nd cd)).toArray from Blk.new _ _ _ hb4)
                have HSd := Lib.hid (HSd.out.kept ((Keeps.refl xs).alloc (.cells (fndC (⟨f.at', f.len, rr⟩, .slice pd nd cd)).toArray 82)))
                have HPd := Lib.hid (HPd.out.keeps ((Keeps.refl xs).alloc (.cells (fndC (⟨f.at', f.len, rr⟩, .slice pd nd cd)).toArray 82)))
                have hb := hHeld.alloc (.cells (fndC (⟨f.at', f.len, rr⟩, .slice pd nd cd)).toArray 82)
                clear hb4
                unfold fndC at hb HSd HPd HB4
                generalize World.alloc xs _ = yB at *
                refine hK.out _ _ hb (fun _ => ?_)
                clear hK K hHeld
                have hHeld : Mods (fun x => x = R + 1 ∨ (Value.slice po ol.length co).ownBlock = some x) wz yB := hb
                clear hb
                try simp only [Act.put, List.setIfInBounds_toArray, List.set_cons_zero, List.set_cons_succ]
                refine wpAnyH_ready (rs := [15]) (by kernel_rfl) (by simp) ?_
                refine AllReadyH.cons (o := _) rfl (fun K hK => ?_) ?_
                · refine step_app (base := w.heap.size) fndok (by decide) rfl _ _ rfl (.slice po ol.length co) ol.length 1 1 ⟨b4, 0, none⟩ (ol.flatMap fndC) (fndC (⟨f.at', f.len, rr⟩, .slice pd nd cd)) rfl rfl HSd.out.fnds.own rfl (fun j y hy => by rw [Go.WideShapes.add_plain, HB4.out.cell, Nat.zero_add]; simpa [fndC] using hy) (by simp [fndC, Value.oneCell']) (by omega) (by decide) HSd.out.keeps.size ?_
                  intro v9 yC ho9 hg9
                  obtain ⟨p9, c9, rfl, -, -⟩ := ownsRow_form ho9
                  have hb := hHeld.grown hg9 (fun k hk _ => .inr hk)
                  have HSd := Lib.hid (HSd.out.snoc (f := ⟨f.at', f.len, rr⟩) (pv := .slice pd nd cd) HPd.out ho9 hg9)
                  clear ho9 hg9 HPd HB4
                  show K (Act.put _ (some 51) _) yC
                  refine hK.out _ _ hb (fun _ => ?_)
                  clear hK K hHeld
                  have hHeld : Mods (fun x => x = R + 1 ∨ (Value.slice po ol.length co).ownBlock = some x) wz yC := hb
                  clear hb
                  try simp only [Act.put, List.setIfInBounds_toArray, List.set_cons_zero, List.set_cons_succ]
                  refine wpAnyH_take (i := 16) (v := ?vv32) (by rfl) (by kernel_rfl) (by kernel_rfl) (by kernel_rfl) (by intro _ _ _ h; exact h) (Or.inl ⟨by kernel_rfl, ?hy32⟩) (by assumption) ?rest32
                  case hy32 =>
                    intro w' hSw
                    have hSw : Mods (fun x => x = R + 1 ∨ (Value.slice po ol.length co).ownBlock = some x) wz w' := hSw
                    clear hSw
                    go_simp
                    try with_reducible rfl
                  change wpAnyH _ _ _ _ _ _ _ (Act.put _ (some 52) _) _
                  try simp only [Act.put, List.setIfInBounds_toArray, List.set_cons_zero, List.set_cons_succ]
                  refine wpAnyH_ready (rs := [17]) (by kernel_rfl) (by simp) ?_
                  refine AllReadyH.cons (o := _) rfl (fun K hK => ?_) ?_
                  · have hx : World.cell? yC ⟨R + 1, 0, none⟩ = some (.slice po ol.length co) := by rw [HSd.out.blk.cell]; rfl
                    have hz : World.frozen? yC ⟨R + 1, 0, none⟩ = false := HSd.out.blk.frozen _
                    go_simp
                    have hb := hHeld.setCell (p := ⟨R + 1, 0, none⟩) (fun _ => .inl rfl) (.slice p9 (ol.length + 1) c9)
                    have HSd := Lib.hid (HSd.out.setL hRr)
                    clear hx hz
                    generalize World.setCell yC ⟨R + 1, 0, none⟩ (.slice p9 (ol.length + 1) c9) = yD at *
                    refine hK.out _ _ hb (fun _ => ?_)
                    clear hK K hHeld
                    have hHeld : Mods (fun x => x = R + 1 ∨ (Value.slice po ol.length co).ownBlock = some x) wz yD := hb
                    clear hb
                    try simp only [Act.put, List.setIfInBounds_toArray, List.set_cons_zero, List.set_cons_succ]
                    refine wpAnyH_done (by kernel_rfl) ?_ _
                    refine NoPanic.normal ?_
                    have a1' := hHeld.cell a1 hne2
                    clear a0 a1 r0 r1 r2 r3 r4 r5 r6 r7 r8 r9 r10 r11
                    go_wp2_with fail
                    go_meet
                    exact ⟨p9, c9, Lib.hid ⟨a1', HSd.out⟩⟩
                  exact AllReadyH.nil
                exact AllReadyH.nil
              exact AllReadyH.nil
            refine AllReadyH.cons (o := _) rfl (fun K hK => ?_) ?_
            · go_simp
              obtain ⟨b4, hb4⟩ : ∃ b, b = (World.heap xs).size := ⟨_, rfl⟩
              rw [← hb4]
              have HB4 := Lib.hid (show Blk (World.alloc xs (.cells (fndC (⟨f.at', f.len, rr⟩, .slice pd nd cd)).toArray 82)) b4 82 (fndC (⟨f.at', f.len, rr⟩, .slice pd nd cd)).toArray from Blk.new _ _ _ hb4)
              have HSd := Lib.hid (HSd.out.kept ((Keeps.refl xs).alloc (.cells (fndC (⟨f.at', f.len, rr⟩, .slice pd nd cd)).toArray 82)))
              have HPd := Lib.hid (HPd.out.keeps ((Keeps.refl xs).alloc (.cells (fndC (⟨f.at', f.len, rr⟩, .slice pd nd cd)).toArray 82)))
              have hb := hHeld.alloc (.cells (fndC (⟨f.at', f.len, rr⟩, .slice pd nd cd)).toArray 82)
              clear hb4
              unfold fndC at hb HSd HPd HB4
              generalize World.alloc xs _ = yB at *
              refine hK.out _ _ hb (fun _ => ?_)
              clear hK K hHeld
              have hHeld : Mods (fun x => x = R + 1 ∨ (Value.slice po ol.length co).ownBlock = some x) wz yB := hb
              clear hb
              try simp only [Act.put, List.setIfInBounds_toArray, List.set_cons_zero, List.set_cons_succ]
              refine wpAnyH_ready (rs := [1]) (by kernel_rfl) (by simp) ?_
              refine AllReadyH.cons (o := _) rfl (fun K hK => ?_) ?_
              · have hx : World.cell? yB ⟨R + 1, 0, none⟩ = some (.slice po ol.length co) := by rw [HSd.out.blk.cell]; rfl
                go_simp
                clear hx
                have hb := hHeld
                refine hK.out _ _ hb (fun _ => ?_)
                clear hK K hHeld
                have hHeld : Mods (fun x => x = R + 1 ∨ (Value.slice po ol.length co).ownBlock = some x) wz yB := hb
                clear hb
                try simp only [Act.put, List.setIfInBounds_toArray, List.set_cons_zero, List.set_cons_succ]
                refine wpAnyH_ready (rs := [15]) (by kernel_rfl) (by simp) ?_
                refine AllReadyH.cons (o := _) rfl (fun K hK => ?_) ?_
                · refine step_app (base := w.heap.size) fndok (by decide) rfl _ _ rfl (.slice po ol.length co) ol.length 1 1 ⟨b4, 0, none⟩ (ol.flatMap fndC) (fndC (⟨f.at', f.len, rr⟩, .slice pd nd cd)) rfl rfl HSd.out.fnds.own rfl (fun j y hy => by rw [Go.WideShapes.add_plain, HB4.out.cell, Nat.zero_add]; simpa [fndC] using hy) (by simp [fndC, Value.oneCell']) (by omega) (by decide) HSd.out.keeps.size ?_
                  intro v9 yC ho9 hg9
                  obtain ⟨p9, c9, rfl, -, -⟩ := ownsRow_form ho9
                  have hb := hHeld.grown hg9 (fun k hk _ => .inr hk)
                  have HSd := Lib.hid (HSd.out.snoc (f := ⟨f.at', f.len, rr⟩) (pv := .slice pd nd cd) HPd.out ho9 hg9)
                  clear ho9 hg9 HPd HB4
                  show K (Act.put _ (some 51) _) yC
                  refine hK.out _ _ hb (fun _ => ?_)
                  clear hK K hHeld
                  have hHeld : Mods (fun x => x = R + 1 ∨ (Value.slice po ol.length co).ownBlock = some x) wz yC := hb
                  clear hb
                  try simp only [Act.put, List.setIfInBounds_toArray, List.set_cons_zero, List.set_cons_succ]
                  refine wpAnyH_take (i := 16) (v := ?vv33) (by rfl) (by kernel_rfl) (by kernel_rfl) (by kernel_rfl) (by intro _ _ _ h; exact h) (Or.inl ⟨by kernel_rfl, ?hy33⟩) (by assumption) ?rest33
                  case hy33 =>
                    intro w' hSw
                    have hSw : Mods (fun x => x = R + 1 ∨ (Value.slice po ol.length co).ownBlock = some x) wz w' := hSw
                    clear hSw
                    go_simp
                    try with_reducible rfl
                  change wpAnyH _ _ _ _ _ _ _ (Act.put _ (some 52) _) _
                  try simp only [Act.put, List.setIfInBounds_toArray, List.set_cons_zero, List.set_cons_succ]
                  refine wpAnyH_ready (rs := [17]) (by kernel_rfl) (by simp) ?_
                  refine AllReadyH.cons (o := _) rfl (fun K hK => ?_) ?_
                  · have hx : World.cell? yC ⟨R + 1, 0, none⟩ = some (.slice po ol.length co) := by rw [HSd.out.blk.cell]; rfl
                    have hz : World.frozen? yC ⟨R + 1, 0, none⟩ = false := HSd.out.blk.frozen _
                    go_simp
                    have hb := hHeld.setCell (p := ⟨R + 1, 0, none⟩) (fun _ => .inl rfl) (.slice p9 (ol.length + 1) c9)
                    have HSd := Lib.hid (HSd.out.setL hRr)
                    clear hx hz
                    generalize World.setCell yC ⟨R + 1, 0, none⟩ (.slice p9 (ol.length + 1) c9) = yD at *
                    refine hK.out _ _ hb (fun _ => ?_)
                    clear hK K hHeld
                    have hHeld : Mods (fun x => x = R + 1 ∨ (Value.slice po ol.length co).ownBlock = some x) wz yD := hb
                    clear hb
                    try simp only [Act.put, List.setIfInBounds_toArray, List.set_cons_zero, List.set_cons_succ]
                    refine wpAnyH_done (by kernel_rfl) ?_ _
                    refine NoPanic.normal ?_
                    have a1' := hHeld.cell a1 hne2
                    clear a0 a1 r0 r1 r2 r3 r4 r5 r6 r7 r8 r9 r10 r11
                    go_wp2_with fail
                    go_meet
                    exact ⟨p9, c9, Lib.hid ⟨a1', HSd.out⟩⟩
                  exact AllReadyH.nil
                exact AllReadyH.nil
              exact AllReadyH.nil
            exact AllReadyH.nil
        case rest =>
        obtain ⟨p9, c9, HS90⟩ := hcut
        have ha1 := HS90.out.1
        have HS9 := Lib.hid HS90.out.2
        clear HS90
        obtain ⟨wv, rfl⟩ : ∃ wv : World, wv = wc := ⟨_, rfl⟩
        have HSd := Lib.hid (HS9.out.kept (Keeps.refl wv).drew)
        have hne3 : ¬ g = R + 1 := fun h => hne2 (.inl h)
        have HKv := Lib.hid HS9.out.keeps
        clear a0 a1 r0 r1 r2 r3 r4 r5 r6 r7 r8 r9 r10 r11 HS9
        go_upto_region 9 with fail
        refine wp_region_noPanic ?_
        refine wp_region_held_drew (S := fun w' => Mods (· = R + 1) wv w') (by kernel_rfl) ((Mods.refl (· = R + 1) wv).drew) (fun _ => ?_)
        have hHeld : Mods (· = R + 1) wv (wv).drew := (Mods.refl (· = R + 1) wv).drew
        generalize World.drew wv = xs at *
        refine wpAnyH_take (i := 0) (v := ?vv34) (by rfl) (by kernel_rfl) (by kernel_rfl) (by kernel_rfl) (by intro _ _ _ h; exact h) (Or.inl ⟨by kernel_rfl, ?hy34⟩) (by assumption) ?rest34
        case hy34 =>
          intro w' hSw
          have hSw : Mods (· = R + 1) wv w' := hSw
          clear hSw
          go_simp
          try with_reducible rfl
        change wpAnyH _ _ _ _ _ _ _ (Act.put _ (some 53) _) _
        try simp only [Act.put, List.setIfInBounds_toArray, List.set_cons_zero, List.set_cons_succ]
        refine wpAnyH_take (i := 2) (v := ?vv35) (by rfl) (by kernel_rfl) (by kernel_rfl) (by kernel_rfl) (by intro _ _ _ h; exact h) (Or.inl ⟨by kernel_rfl, ?hy35⟩) (by assumption) ?rest35
        case hy35 =>
          intro w' hSw
          have hSw : Mods (· = R + 1) wv w' := hSw
          clear hSw
          go_simp
          try with_reducible rfl
        change wpAnyH _ _ _ _ _ _ _ (Act.put _ (some 55) _) _
        try simp only [Act.put, List.setIfInBounds_toArray, List.set_cons_zero, List.set_cons_succ]
        refine wpAnyH_take (i := 3) (v := ?vv36) (by rfl) (by kernel_rfl) (by kernel_rfl) (by kernel_rfl) (by intro _ _ _ h; exact h) (Or.inl ⟨by kernel_rfl, ?hy36⟩) (by assumption) ?rest36
        case hy36 =>
          intro w' hSw
          have hSw : Mods (· = R + 1) wv w' := hSw
          clear hSw
          go_simp
          try with_reducible rfl
        change wpAnyH _ _ _ _ _ _ _ (Act.put _ (some 56) _) _
        try simp only [Act.put, List.setIfInBounds_toArray, List.set_cons_zero, List.set_cons_succ]
        refine wpAnyH_take (i := 4) (v := ?vv37) (by rfl) (by kernel_rfl) (by kernel_rfl) (by kernel_rfl) (by intro _ _ _ h; exact h) (Or.inl ⟨by kernel_rfl, ?hy37⟩) (by assumption) ?rest37
        case hy37 =>
          intro w' hSw
          have hSw : Mods (· = R + 1) wv w' := hSw
          clear hSw
          go_simp
          try with_reducible rfl
        change wpAnyH _ _ _ _ _ _ _ (Act.put _ (some 57) _) _
        try simp only [Act.put, List.setIfInBounds_toArray, List.set_cons_zero, List.set_cons_succ]
        refine wpAnyH_take (i := 5) (v := ?vv38) (by rfl) (by kernel_rfl) (by kernel_rfl) (by kernel_rfl) (by intro _ _ _ h; exact h) (Or.inl ⟨by kernel_rfl, ?hy38⟩) (by assumption) ?rest38
        case hy38 =>
          intro w' hSw
          have hSw : Mods (· = R + 1) wv w' := hSw
          clear hSw
          go_simp
          try with_reducible rfl
        change wpAnyH _ _ _ _ _ _ _ (Act.put _ (some 58) _) _
        try simp only [Act.put, List.setIfInBounds_toArray, List.set_cons_zero, List.set_cons_succ]
        refine wpAnyH_take (i := 6) (v := ?vv39) (by rfl) (by kernel_rfl) (by kernel_rfl) (by kernel_rfl) (by intro _ _ _ h; exact h) (Or.inl ⟨by kernel_rfl, ?hy39⟩) (by assumption) ?rest39
        case hy39 =>
          intro w' hSw
          have hSw : Mods (· = R + 1) wv w' := hSw
          have h0 := hSw.cell ha1 hne3
          clear hSw
          go_simp
          try with_reducible rfl
        change wpAnyH _ _ _ _ _ _ _ (Act.put _ (some 59) _) _
        try simp only [Act.put, List.setIfInBounds_toArray, List.set_cons_zero, List.set_cons_succ]
        refine wpAnyH_ready (rs := [1]) (by kernel_rfl) (by simp) ?_
        refine AllReadyH.cons (o := _) rfl (fun K hK => ?_) ?_
        · have hx : World.cell? xs ⟨R + 1, 1, none⟩ = some (.int .i64 ((l.length : Int) - lenL (fs.take j))) := by rw [HSd.out.blk.cell]; rfl
          go_simp
          clear hx
          have hb := hHeld
          refine hK.out _ _ hb (fun _ => ?_)
          clear hK K hHeld
          have hHeld : Mods (· = R + 1) wv xs := hb
          clear hb
          try simp only [Act.put, List.setIfInBounds_toArray, List.set_cons_zero, List.set_cons_succ]
          refine wpAnyH_take (i := 7) (v := ?vv40) (by rfl) (by kernel_rfl) (by kernel_rfl) (by kernel_rfl) (by intro _ _ _ h; exact h) (Or.inl ⟨by kernel_rfl, ?hy40⟩) (by assumption) ?rest40
          case hy40 =>
            intro w' hSw
            have hSw : Mods (· = R + 1) wv w' := hSw
            clear hSw
            go_simp
            try with_reducible rfl
          change wpAnyH _ _ _ _ _ _ _ (Act.put _ (some 60) _) _
          try simp only [Act.put, List.setIfInBounds_toArray, List.set_cons_zero, List.set_cons_succ]
          refine wpAnyH_take (i := 8) (v := ?vv41) (by rfl) (by kernel_rfl) (by kernel_rfl) (by kernel_rfl) (by intro _ _ _ h; exact h) (Or.inl ⟨by kernel_rfl, ?hy41⟩) (by assumption) ?rest41
          case hy41 =>
            intro w' hSw
            have hSw : Mods (· = R + 1) wv w' := hSw
            clear hSw
            go_simp
            try with_reducible rfl
          change wpAnyH _ _ _ _ _ _ _ (Act.put _ (some 61) _) _
          try simp only [Act.put, List.setIfInBounds_toArray, List.set_cons_zero, List.set_cons_succ]
          refine wpAnyH_ready (rs := [9]) (by kernel_rfl) (by simp) ?_
          refine AllReadyH.cons (o := _) rfl (fun K hK => ?_) ?_
          · have hx : World.cell? xs ⟨R + 1, 1, none⟩ = some (.int .i64 ((l.length : Int) - lenL (fs.take j))) := by rw [HSd.out.blk.cell]; rfl
            have hz : World.frozen? xs ⟨R + 1, 1, none⟩ = false := HSd.out.blk.frozen _
            go_simp
            have hb := hHeld.setCell (p := ⟨R + 1, 1, none⟩) (fun _ => rfl) (.int .i64 ((l.length : Int) - lenL (fs.take j) - f.len))
            have HSd := Lib.hid (HSd.out.setB hRr ((l.length : Int) - lenL (fs.take j) - f.len))
            clear hx hz
            generalize World.setCell xs ⟨R + 1, 1, none⟩ (.int .i64 ((l.length : Int) - lenL (fs.take j) - f.len)) = yE at *
            refine hK.out _ _ hb (fun _ => ?_)
            clear hK K hHeld
            have hHeld : Mods (· = R + 1) wv yE := hb
            clear hb
            try simp only [Act.put, List.setIfInBounds_toArray, List.set_cons_zero, List.set_cons_succ]
            refine wpAnyH_done (by kernel_rfl) ?_ _
            refine NoPanic.normal ?_
            go_wp2_with fail
            go_roundw
            case rel =>
              refine ⟨j + 1, ol ++ [(⟨f.at', f.len, rr⟩, .slice pd nd cd)], p9, c9, by simp, by omega, Lib.hid ⟨?_, by rw [HN'.out, List.map_append, HO.out]; rfl⟩⟩
              rw [HL'.out, List.length_append, List.length_singleton]
              have h := HSd.out
              rw [show (l.length : Int) - lenL (fs.take j) - f.len = (l.length : Int) - (lenL (fs.take j) + f.len) from by omega] at h
              exact h
            case measure =>
              simp only [intOf]
              omega
          exact AllReadyH.nil
        exact AllReadyH.nil
      · have HN' : Hid (fndL (fs.take (j + 1)) = fndL (fs.take j)) := Lib.hid (by rw [HN.out, HFO.out, if_neg he, List.append_nil])
        have HL' : Hid (lenL (fs.take (j + 1)) = lenL (fs.take j)) := Lib.hid (by rw [HL.out, if_neg he, Int.add_zero])
        have he' : (er == 0) = false := by simp [he]
        clear HN HL HFO he
        go_wp2_with fail
        go_roundw
        case rel => exact ⟨j + 1, ol, po, co, by simp, by omega, Lib.hid ⟨by rw [HL'.out]; exact HS.out, by rw [HN'.out]; exact HO.out⟩⟩
        case measure =>
          simp only [intOf]
          omega
    · obtain rfl : j = fs.length := by omega
      rw [List.take_length] at HH
      have HB := Lib.hid HH.out.1.blk
      have HR0 := Lib.hid HH.out.1.res
      have HF := Lib.hid HH.out.1
      have HO := Lib.hid HH.out.2
      clear HH
      have hone : (#[Value.slice po ol.length co, .int .i64 ((l.length : Int) - lenL fs)] : Array Value).all (·.oneCell') = true := by simp [Value.oneCell']
      go_wp2_with (first
        | refine wpList_ld rfl lotM HB.out _ rfl rfl ?_
        | refine wpList_st (ds := #[.slice po ol.length co, .int .i64 ((l.length : Int) - lenL fs)]) rfl lotM HR0.out rfl hone _ _ rfl rfl rfl rfl ?_; intro w6 hB6 hM6)
      have HLd := Lib.hid (ld_run (P := Try.prog) lotM hB6)
      have HX := Lib.hid (hM6.keeps HF.out.keeps (fun x hx => by have := HRr.out; omega))
      have HY := Lib.hid (HF.out.fnds.mods hM6 (fun x hx cs fr hc => by subst hx; have h := HR0.out; unfold Blk at h; rw [h] at hc; simp at hc) (fun x hx cs fr hc => by subst hx; have h := HR0.out; unfold Blk at h; rw [h] at hc; simp at hc))
      clear hB6 hM6
      exact bodyPost_ret (v := .agg #[.slice po ol.length co, .int .i64 ((l.length : Int) - lenL fs)]) (by simp [results, Try.results46, Sem.run_bind, Sem.run_pure, Result.andThen_ok, Act.put, asAddr, HLd.out]) rfl ⟨po, co, ol, rfl, HY.out, HO.out, HX.out⟩
end Rcd
end Go.Proofs.Ytekkjhjaacjhnaa
