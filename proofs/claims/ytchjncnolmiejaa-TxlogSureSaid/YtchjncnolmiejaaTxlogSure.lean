/- TxlogSure: its walk. Written by gen_txsure.py. -/
import Derived.Test.YtchjncnolmiejaaK42
import Derived.Test.YtchjncnolmiejaaTxlogCuts
import Derived.Test.YtchjncnolmiejaaK37
namespace Go.Proofs.Ytchjncnolmiejaa
open Go.RowKit
namespace Txl
open Oct Frm
section
variable {L : List Nat} {W w : World} {g : Nat} {d : Vd.Dsk} {k : Nat}
theorem OneAt.at_ (h : OneAt L W w g d k) : Vd.At W w g d k := by
  obtain ⟨S, h⟩ := h
  exact ⟨h.dsk.wide (fun y hy => ⟨(h.ls y hy).1, (h.ls y hy).2.1⟩), h.keep, h.few⟩
theorem OneAt.crash (h : OneAt L W w g d k) (n : Int) : Calls Try.prog 20 #[.pointer (some ⟨g, 0, none⟩), .int .i64 n] w fun e w' => e = .returned (.tuple #[]) ∧ OneAt L W w' g { d with crash := Vd.setT n 11 } k ∧ Mods (fun y => W.heap.size ≤ y ∧ y ∉ L) w w' := by
  obtain ⟨S, h⟩ := h
  refine (Vd.crash_any w h.dsk n).mono ?_
  rintro e w' ⟨rfl, hd, hm⟩
  have hs := hm.size
  exact ⟨rfl, ⟨S, hd, fun y hy => ⟨(h.ls y hy).1, by have := (h.ls y hy).2.1; omega, (h.ls y hy).2.2⟩, fun y hy => by have := h.ll y hy; omega, hm.keeps h.keep (fun y hy => (h.ls y hy).1), ⟨h.few.c0, h.few.c1, h.few.m, h.few.n, h.few.p, h.few.s, h.few.u⟩⟩, hm.mono (fun y hy => ⟨(h.ls y hy).1, (h.ls y hy).2.2⟩)⟩
end
theorem open0 : openD (Sf.Wd 1048576 Sf.uA false 0 (-1, 0) (-1, 0)) nmX = (Xd (xF []) false 4 (-1, 0) (-1, 0), 0, []) := by kernel_rfl
theorem rep0 : rep [] = ([], 0) := by kernel_rfl
theorem few0 (f k : Int × Int) : Vd.Few (Sf.Wd 1048576 Sf.uA false 0 f k) 1 :=
  ⟨by show (0 : Int) ≤ 0; omega, by show (0 : Int) ≤ 1; omega, Nat.zero_le _, Nat.zero_le _, fun y hy => absurd hy (List.not_mem_nil), Nat.zero_le _, Nat.zero_le _⟩
theorem open_was {d : Vd.Dsk} {s : Vd.Str} (h : Vd.textD d nmX = (s, 0)) : openD d nmX = (d, 0, s) := by
  unfold openD
  rw [h, if_neg (by show ¬ (0 : Int) = 7; decide)]
set_option maxRecDepth 100000 in
set_option maxHeartbeats 8000000 in
theorem txlogSure_walk (W : World) (v : Value) (l : List TrX) (c t : Int) (v3 : Value) (ks : List Int) (r0 : RowS W 1 v l.length (l.flatMap trC)) (w0 : ∀ y ∈ l, trGood W y) (_w1 : (Lit.int .i64 c).wf = true) (w2 : (Lit.int .i64 t).wf = true) (_w3 : ∀ x ∈ ks, (Lit.int .i64 x).wf = true) (r3 : Row W v3 (ks.map (.int .i64))) : Calls Try.prog 10 #[v, .int .i64 c, .int .i64 t, v3] W fun e w' => e = .returned (.bool true) ∧ Keeps W w' := by
  have hr : Row W v (l.map (·.1)) := by
    have := r0.row
    rw [trC_map] at this
    exact this
  obtain ⟨p, c', rfl, -, -⟩ := r0.form
  obtain ⟨p3, c3, rfl, -, -⟩ := r3.form
  have hkl : (ks.map (Value.int .i64)).length = ks.length := by simp
  rw [hkl] at r3 ⊢
  have HR := Lib.hid hr
  have HG := Lib.hid w0
  have HR3 := Lib.hid r3
  have HWF := Lib.hid w2
  have HAW := Lib.hid (awake17_any W)
  clear hr w0 r0 _w1 w2 _w3 r3 hkl
  go_enter Try.func10, Try.ntmps10
  go_wp2_with fail
  refine HAW.out.mono ?_
  rintro e w1 ⟨rfl, hk1⟩
  have HK1 := Lib.hid hk1
  clear hk1 HAW
  by_cases h20 : 20 < l.length
  · go_wp2_with fail
    go_ret
    exact ⟨rfl, HK1.out⟩
  by_cases h60 : 60 < ks.length
  · go_wp2_with fail
    go_ret
    exact ⟨rfl, HK1.out⟩
  obtain ⟨T, hT⟩ : ∃ T : List (List Item), T = l.map (fun x => x.2.map (·.2)) := ⟨_, rfl⟩
  have HT := Lib.hid hT
  have HTl := Lib.hid (show T.length = l.length from by rw [hT, List.length_map])
  clear hT
  have h20' : l.length ≤ 20 := by omega
  have HNW := Lib.hid (Vd.new_at HK1.out (.slice none 0 0) [] (Vd.rowS_none _) (fun f hf => absurd hf (List.not_mem_nil)) 1048576)
  unfold Vd.NewAt at HNW
  rw [show Vd.newD [] 1048576 = some (Sf.Wd 1048576 Sf.uA false 0 (-1, 0) (-1, 0)) from rfl] at HNW
  go_wp2_with fail
  refine HNW.out.mono ?_
  rintro e w3 ⟨hk, g, rfl, hd⟩
  have H3 := Lib.hid (show Vd.At W w3 g (Sf.Wd 1048576 Sf.uA false 0 (-1, 0) (-1, 0)) 1 from ⟨hd, hk, few0 _ _⟩)
  clear hd hk HNW HK1
  have HOP := Lib.hid (open_any (At.one H3.out) (by omega) nmX (by decide))
  rw [open0] at HOP
  unfold OpenDid at HOP
  simp only [if_true, rep0] at HOP
  unfold nmX at HOP
  go_wp2_with fail
  refine HOP.out.mono ?_
  rintro e w4 ⟨b, tv, X, rfl, hbb, ho, -, hB, -, -⟩
  have HO4 := Lib.hid ho
  have HB4 := Lib.hid (show Blk w4 b 172 (logA g nmX 0 true) from hB)
  have hbW := Nat.le_trans H3.out.keep.size hbb
  clear ho hB HOP H3 hbb
  have HCR := Lib.hid (OneAt.crash HO4.out c)
  go_wp2_with fail
  refine HCR.out.mono ?_
  rintro e w5 ⟨rfl, ho, hM⟩
  have HO5 := Lib.hid (show OneAt [b] W w5 g (Xd (xF []) false 4 (-1, 0) (Vd.setT c 11)) 9 from ho)
  have HB5 := Lib.hid (HB4.out.mods hM (fun hy => hy.2 (List.mem_cons_self ..)))
  clear ho hM HCR HO4 HB4
  go_wp2_with fail
  go_loopw [13, 14] (fun cv iv wr => ∃ (cn i : Nat) (d : Vd.Dsk), cv = .int .i64 (cn : Int) ∧ iv = .int .i64 (i : Int) ∧ i ≤ l.length ∧ cn ≤ i ∧ Hid (OneAt [b] W wr g d (9 + 3 * i)) ∧ Hid (Blk wr b 172 (logA g nmX cn true)) ∧ Hid (LogIs T cn i d) ∧ Hid (∀ t ∈ T.take i, trSm t)) (fun _ iv _ => l.length - (intOf iv).toNat)
  case atStart => exact ⟨0, 0, _, rfl, rfl, Nat.zero_le _, Nat.le_refl _, HO5, HB5, Lib.hid ⟨4, (-1, 0), Vd.setT c 11, Sf.tr_c c, rfl, .inl ⟨rfl, by simp [allF, cat]⟩⟩, Lib.hid (by simp)⟩
  case round =>
    clear HO5 HB5
    obtain ⟨cn, j, d, rfl, rfl, hj, hcj, HO, HB, HLI, HSMA⟩ := hrel
    have HK := Lib.hid HO.out.kp
    by_cases hlt : j < l.length
    · have hjT : j < T.length := by rw [HTl.out]; exact hlt
      obtain ⟨bl, off, cap', hv, hc⟩ := row_cells HR.out (by rw [List.length_map]; omega)
      rw [List.length_map] at hv
      simp only [Value.slice.injEq] at hv
      obtain ⟨rfl, -, rfl⟩ := hv
      have hcell : wr.cell? ⟨bl, off + j, none⟩ = some l[j].1 := by
        have := hc.out j l[j].1 (by simp [hlt])
        rw [HK.out.cell (p := ⟨bl, off + j, none⟩) (lt_of_cell this)]
        exact this
      have hgood := HG.out l[j] (List.getElem_mem hlt)
      have HTJ := Lib.hid (show T[j] = l[j].2.map (·.2) from by
        have := HT.out
        subst this
        simp)
      have HTT := Lib.hid (show T.take (j + 1) = T.take j ++ [T[j]] from List.take_succ_eq_append_getElem hjT)
      have HSTP := Lib.hid (fun (h : trSm T[j]) => logIs_step HLI.out hjT (by rw [HTl.out]; exact h20') HSMA.out h)
      have hlj : (j : Int) < (l.length : Int) := by omega
      clear hc
      generalize T[j] = tj at *
      generalize l[j] = y at *
      obtain ⟨yv, yl⟩ := y
      obtain ⟨hgr, hgp⟩ := hgood
      simp only at hcell hgr hgp HTJ
      have HGR := Lib.hid (hgr.keeps HK.out)
      have HGP := Lib.hid (fun z hz => (hgp z hz).keeps HK.out)
      obtain ⟨pq, cq, hyv, -, -⟩ := hgr.form
      rw [List.length_map] at hyv
      subst hyv
      clear hgr hgp
      by_cases h10 : 10 < yl.length
      · go_wp2_with fail
        go_ret
        exact ⟨rfl, HK.out⟩
      have HBK := Lib.hid (bulkD_any 300 (by omega) (.slice pq yl.length cq) yl wr HGR.out HGP.out)
      rw [show ((300 : Nat) : Int) = 300 from rfl] at HBK
      unfold BulkD at HBK
      go_wp2_with fail
      refine HBK.out.mono ?_
      rintro e w9 ⟨bk, rfl, hbk, hbs, rfl⟩
      by_cases hb1 : 300 < bk
      · go_wp2_with fail
        go_ret
        exact ⟨rfl, HK.out⟩
      have hbs' := hbs (by omega)
      have HTO := Lib.hid (show trSm tj from by
        rw [HTJ.out]
        exact ⟨by rw [List.length_map]; omega, fun x hx => by obtain ⟨z, hz, rfl⟩ := List.mem_map.1 hx; exact hbs' z hz⟩)
      obtain ⟨d2, c2, er, hadd, hlg, hec⟩ := HSTP.out HTO.out
      have HLG := Lib.hid hlg
      have HAD := Lib.hid (add_any HO.out (by omega) (List.mem_cons_self ..) hbW HB.out (by omega) (by decide) (.slice pq yl.length cq) yl HGR.out HGP.out)
      rw [← HTJ.out, hadd] at HAD
      unfold AddDid at HAD
      simp only at HAD
      clear hbs hbs' hadd hlg HBK
      go_wp2_with fail
      refine HAD.out.mono ?_
      rintro e w6 ⟨rfl, ho, hB, -⟩
      have HO6 := Lib.hid (OneAt.more ho (show 9 + 3 * j + 3 ≤ 9 + 3 * (j + 1) by omega))
      have HB6 := Lib.hid hB
      clear ho hB HAD
      have HSM2 := Lib.hid (show ∀ t ∈ T.take (j + 1), trSm t from by
        rw [HTT.out]
        intro t ht
        rcases List.mem_append.1 ht with ht | ht
        · exact HSMA.out t ht
        · simp at ht; subst ht; exact HTO.out)
      rcases hec with ⟨rfl, rfl⟩ | ⟨rfl, rfl⟩
      · go_wp2_with fail
        go_roundw
        case rel => exact ⟨cn + 1, j + 1, d2, by simp, by simp, by omega, by omega, HO6, HB6, HLG, HSM2⟩
        case measure =>
          simp only [intOf]
          omega
      · go_wp2_with fail
        go_roundw
        case rel => exact ⟨_, j + 1, d2, rfl, by simp, by omega, by omega, HO6, HB6, HLG, HSM2⟩
        case measure =>
          simp only [intOf]
          omega
    · have hjl : j = l.length := by omega
      have hlt' : decide ((j : Int) < (l.length : Int)) = false := by simp; omega
      have hje : j = T.length := by rw [HTl.out]; exact hjl
      have HEND := Lib.hid (by
        have h1 := HLI.out
        have h2 := HSMA.out
        rw [hje] at h1
        rw [hje, List.take_length] at h2
        exact logIs_end h1 (by rw [HTl.out]; exact h20') h2 t ks)
      have HA := Lib.hid (OneAt.at_ HO.out)
      have HDN := Lib.hid (Vd.down_at HA.out)
      have hcT : cn ≤ l.length := by omega
      clear hjl hje HO HB HLI HSMA
      have hk80 : 9 + 3 * j ≤ 69 := by omega
      generalize 9 + 3 * j = k0 at *
      cases ho : d.off with
      | true =>
        rw [ho] at HDN
        have HX := Lib.hid (show Sf.downD d = d from by unfold Sf.downD; rw [if_pos ho])
        rw [HX.out] at HEND
        have HBT := Lib.hid (Vd.boot_at HA.out (by omega) t HWF.out (HA.out.arg (Keeps.refl _) HR3.out))
        rw [Vd.boot_e ho] at HBT
        clear ho
        go_wp2_with fail
        refine HDN.out.mono ?_
        rintro e w2 ⟨rfl, rfl⟩
        go_wp2_with fail
        refine HBT.out.mono ?_
        rintro e w7 ⟨rfl, h7⟩
        have H7 := Lib.hid (Vd.At.mk h7.dsk h7.keep (h7.few.mono (show _ ≤ 140 by omega)))
        clear h7 HBT
        obtain ⟨s, m, hs, hm1, hm2, hm3, hm4⟩ := HEND.out
        have HM4 := Lib.hid hm4
        have hml : m ≤ l.length := by rw [← HTl.out]; exact hm3
        have HOP := Lib.hid (open_any (At.one H7.out) (by omega) nmX (by decide))
        rw [open_was hs] at HOP
        unfold OpenDid at HOP
        simp only [if_true] at HOP
        unfold nmX at HOP
        clear hs hm3 hm4 HEND
        go_wp2_with fail
        refine HOP.out.mono ?_
        rintro e w8 ⟨b8, tv8, X8, rfl, -, ho8, -, -, ht8, hx8⟩
        have HKf := Lib.hid ho8.kp
        have HXE := Lib.hid (hx8.trans HM4.out)
        have hXl : X8.length = m := by
          have h1 := congrArg List.length HXE.out
          rw [List.length_map, numd_len, List.length_take] at h1
          have := HTl.out
          omega
        obtain ⟨px, cx, rfl, -, -⟩ := Frm.ownsRow_form ht8.own
        have HX8 := Lib.hid ht8.r
        have HXL := Lib.hid hXl
        rw [hXl] at HX8 ⊢
        clear ht8 hx8 ho8 hXl HOP
        have hm20 : m ≤ 20 := by omega
        have hcx : m ≤ cx := by
          obtain ⟨_, _, e1, e2, -⟩ := HX8.out.form
          simp only [Value.slice.injEq] at e1
          have := HXL.out
          omega
        obtain ⟨mn, hmn⟩ : ∃ mn : Nat, mn = min (cn + 1) l.length := ⟨_, rfl⟩
        have hmin : (if (l.length : Int) < (cn : Int) + 1 then (l.length : Int) else (cn : Int) + 1) = (mn : Int) := by split <;> omega
        have hmm : m ≤ mn := by omega
        have q1 : decide ((m : Int) < (cn : Int)) = false := by simp; omega
        have q2 : decide ((mn : Int) < (m : Int)) = false := by simp; omega
        have q3 : decide (m < cn) = false := by simp; omega
        have q4 : decide (mn < m) = false := by simp; omega
        clear hmn hm1 hm2 hcj
        go_wp2_with fail
        go_loopw [17] (fun iv wx => ∃ q : Nat, iv = .int .i64 (q : Int) ∧ q ≤ m ∧ Hid (Keeps w8 wx)) (fun iv _ => m - (intOf iv).toNat)
        case atStart => exact ⟨0, rfl, Nat.zero_le _, Lib.hid (Keeps.refl _)⟩
        case round =>
          obtain ⟨q, rfl, hq, HQ⟩ := hrel
          clear q1 q2 q3 q4 hmin hmm
          by_cases hltq : q < m
          · have hqX : q < X8.length := by rw [HXL.out]; exact hltq
            have hql : q < l.length := by omega
            have HKq := Lib.hid (HKf.out.trans HQ.out)
            obtain ⟨b, off, cap', hv, hc⟩ := row_cells HR.out (by rw [List.length_map]; omega)
            rw [List.length_map] at hv
            simp only [Value.slice.injEq] at hv
            obtain ⟨rfl, -, rfl⟩ := hv
            have hcell : wr.cell? ⟨b, off + q, none⟩ = some l[q].1 := by
              have := hc.out q l[q].1 (by simp [hql])
              rw [HKq.out.cell (p := ⟨b, off + q, none⟩) (lt_of_cell this)]
              exact this
            have hgood := HG.out l[q] (List.getElem_mem hql)
            have HTQ := Lib.hid (show txP X8[q] = (q + 1, l[q].2.map (·.2)) from by
              have h1 := congrArg (fun z => z[q]?) HXE.out
              simp only [List.getElem?_map, List.getElem?_eq_getElem hqX, Option.map_some] at h1
              rw [numd_get _ 1 q (by rw [List.length_take, HTl.out]; omega)] at h1
              simp only [Option.some.injEq] at h1
              rw [h1, List.getElem_take, Nat.add_comm 1 q]
              have := HT.out
              subst this
              simp)
            have HXq := Lib.hid (HX8.out.keeps HQ.out)
            obtain ⟨pz, hpz⟩ := cutS_sl 2 px q (q + 1) cx
            rw [show q + 1 - q = 1 from by omega] at hpz
            have hcut : ∀ w', (Instr.slice 66 (.slice px m cx) (some (.int .i64 (q : Int))) (some (.int .i64 ((q : Int) + 1))) none).run Try.prog w' = .ok (.slice pz 1 (cx - q)) w' := fun w' => by
              rw [← hpz, show ((q : Int) + 1) = ((q + 1 : Nat) : Int) from by omega]
              exact run_cutS_lh w' Try.underlying66 (by intro w; kernel_rfl) px m cx q (q + 1) (by omega) (by omega)
            have HZ := Lib.hid (show TxsR wr (.slice pz 1 (cx - q)) [X8[q]] from by
              have h0 := HXq.out.row
              rw [← HXL.out] at h0
              have h1 := RowS.part txC_len h0 (lo := q) (hi := q + 1) (by omega) (by omega)
              rw [hpz] at h1
              have e1 : (X8.drop q).take (q + 1 - q) = [X8[q]] := by
                rw [show q + 1 - q = 1 from by omega, List.drop_eq_getElem_cons hqX]
                rfl
              rw [e1] at h1
              exact ⟨by simpa using h1, fun x hx => by simp only [List.mem_singleton] at hx; subst hx; exact HXq.out.its _ (List.getElem_mem hqX), fun x hx => by simp only [List.mem_singleton] at hx; subst hx; exact HXq.out.pay _ (List.getElem_mem hqX)⟩)
            have HGq := Lib.hid (show Row wr l[q].1 (l[q].2.map (·.1)) ∧ ∀ y ∈ l[q].2, payOk wr y from ⟨hgood.1.keeps HKq.out, fun y hy => (hgood.2 y hy).keeps HKq.out⟩)
            obtain ⟨fy, fc, hfy, -, -⟩ := hgood.1.form
            have hqi : (q : Int) < (m : Int) := by omega
            have hqli : (q : Int) < (l.length : Int) := by omega
            clear hc hgood hpz
            generalize X8[q] = zx at *
            generalize l[q] = y at *
            obtain ⟨yv, yl⟩ := y
            simp only at hcell HTQ HGq hfy
            rw [List.length_map] at hfy
            subst hfy
            have hwq : IntKind.i64.wrap ((q : Int) + 1) = (q : Int) + 1 := by rw [IntKind.wrap_i64]; omega
            go_upto_region 31 with fail
            refine wp_region_noPanic ?_
            refine wp_region_held_drew (S := fun w' => Keeps wr w') (by kernel_rfl) ((Keeps.refl wr).drew) (fun _ => ?_)
            have hHeld : Keeps wr (wr).drew := (Keeps.refl wr).drew
            generalize World.drew wr = xs at *
            refine wpAnyH_take (i := 0) (v := ?vv1) (by rfl) (by kernel_rfl) (by kernel_rfl) (by kernel_rfl) (by intro _ _ _ h; exact h) (Or.inl ⟨by kernel_rfl, ?hy1⟩) (by assumption) ?rest1
            case hy1 =>
              intro w' hSw
              have hSw : Keeps wr w' := hSw
              clear hSw
              go_simp
              try with_reducible rfl
            change wpAnyH _ _ _ _ _ _ _ (Act.put _ (some 117) _) _
            try simp only [Act.put, List.setIfInBounds_toArray, List.set_cons_zero, List.set_cons_succ]
            refine wpAnyH_take (i := 1) (v := ?vv2) (by rfl) (by kernel_rfl) (by kernel_rfl) (by kernel_rfl) (by intro _ _ _ h; exact h) (Or.inl ⟨by kernel_rfl, ?hy2⟩) (by assumption) ?rest2
            case hy2 =>
              intro w' hSw
              have hSw : Keeps wr w' := hSw
              clear hSw
              go_simp
              try with_reducible rfl
            change wpAnyH _ _ _ _ _ _ _ (Act.put _ (some 118) _) _
            try simp only [Act.put, List.setIfInBounds_toArray, List.set_cons_zero, List.set_cons_succ]
            refine wpAnyH_take (i := 2) (v := ?vv3) (by rfl) (by kernel_rfl) (by kernel_rfl) (by kernel_rfl) (by intro _ _ _ h; exact h) (Or.inl ⟨by kernel_rfl, ?hy3⟩) (by assumption) ?rest3
            case hy3 =>
              intro w' hSw
              have hSw : Keeps wr w' := hSw
              clear hSw
              go_simp
              try with_reducible rfl
            change wpAnyH _ _ _ _ _ _ _ (Act.put _ (some 119) _) _
            try simp only [Act.put, List.setIfInBounds_toArray, List.set_cons_zero, List.set_cons_succ]
            refine wpAnyH_take (i := 3) (v := ?vv4) (by rfl) (by kernel_rfl) (by kernel_rfl) (by kernel_rfl) (by intro _ _ _ h; exact h) (Or.inl ⟨by kernel_rfl, ?hy4⟩) (by assumption) ?rest4
            case hy4 =>
              intro w' hSw
              have hSw : Keeps wr w' := hSw
              clear hSw
              go_simp
              try with_reducible rfl
            change wpAnyH _ _ _ _ _ _ _ (Act.put _ (some 120) _) _
            try simp only [Act.put, List.setIfInBounds_toArray, List.set_cons_zero, List.set_cons_succ]
            refine wpAnyH_take (i := 4) (v := ?vv5) (by rfl) (by kernel_rfl) (by kernel_rfl) (by kernel_rfl) (by intro _ _ _ h; exact h) (Or.inl ⟨by kernel_rfl, ?hy5⟩) (by assumption) ?rest5
            case hy5 =>
              intro w' hSw
              have hSw : Keeps wr w' := hSw
              have hx := hcut w'
              clear hSw
              go_simp
              try with_reducible rfl
            change wpAnyH _ _ _ _ _ _ _ (Act.put _ (some 121) _) _
            try simp only [Act.put, List.setIfInBounds_toArray, List.set_cons_zero, List.set_cons_succ]
            refine wpAnyH_take (i := 5) (v := ?vv6) (by rfl) (by kernel_rfl) (by kernel_rfl) (by kernel_rfl) (by intro _ _ _ h; exact h) (Or.inl ⟨by kernel_rfl, ?hy6⟩) (by assumption) ?rest6
            case hy6 =>
              intro w' hSw
              have hSw : Keeps wr w' := hSw
              clear hSw
              go_simp
              try with_reducible rfl
            change wpAnyH _ _ _ _ _ _ _ (Act.put _ (some 122) _) _
            try simp only [Act.put, List.setIfInBounds_toArray, List.set_cons_zero, List.set_cons_succ]
            refine wpAnyH_take (i := 6) (v := ?vv7) (by rfl) (by kernel_rfl) (by kernel_rfl) (by kernel_rfl) (by intro _ _ _ h; exact h) (Or.inl ⟨by kernel_rfl, ?hy7⟩) (by assumption) ?rest7
            case hy7 =>
              intro w' hSw
              have hSw : Keeps wr w' := hSw
              clear hSw
              go_simp
              try with_reducible rfl
            change wpAnyH _ _ _ _ _ _ _ (Act.put _ (some 123) _) _
            try simp only [Act.put, List.setIfInBounds_toArray, List.set_cons_zero, List.set_cons_succ]
            refine wpAnyH_take (i := 7) (v := ?vv8) (by rfl) (by kernel_rfl) (by kernel_rfl) (by kernel_rfl) (by intro _ _ _ h; exact h) (Or.inl ⟨by kernel_rfl, ?hy8⟩) (by assumption) ?rest8
            case hy8 =>
              intro w' hSw
              have hSw : Keeps wr w' := hSw
              clear hSw
              go_simp
              try with_reducible rfl
            change wpAnyH _ _ _ _ _ _ _ (Act.put _ (some 124) _) _
            try simp only [Act.put, List.setIfInBounds_toArray, List.set_cons_zero, List.set_cons_succ]
            refine wpAnyH_take (i := 8) (v := ?vv9) (by rfl) (by kernel_rfl) (by kernel_rfl) (by kernel_rfl) (by intro _ _ _ h; exact h) (Or.inl ⟨by kernel_rfl, ?hy9⟩) (by assumption) ?rest9
            case hy9 =>
              intro w' hSw
              have hSw : Keeps wr w' := hSw
              clear hSw
              go_simp
              try with_reducible rfl
            change wpAnyH _ _ _ _ _ _ _ (Act.put _ (some 125) _) _
            try simp only [Act.put, List.setIfInBounds_toArray, List.set_cons_zero, List.set_cons_succ]
            refine wpAnyH_take (i := 9) (v := ?vv10) (by rfl) (by kernel_rfl) (by kernel_rfl) (by kernel_rfl) (by intro _ _ _ h; exact h) (Or.inl ⟨by kernel_rfl, ?hy10⟩) (by assumption) ?rest10
            case hy10 =>
              intro w' hSw
              have hSw : Keeps wr w' := hSw
              clear hSw
              go_simp
              try with_reducible rfl
            change wpAnyH _ _ _ _ _ _ _ (Act.put _ (some 126) _) _
            try simp only [Act.put, List.setIfInBounds_toArray, List.set_cons_zero, List.set_cons_succ]
            refine wpAnyH_take (i := 10) (v := ?vv11) (by rfl) (by kernel_rfl) (by kernel_rfl) (by kernel_rfl) (by intro _ _ _ h; exact h) (Or.inl ⟨by kernel_rfl, ?hy11⟩) (by assumption) ?rest11
            case hy11 =>
              intro w' hSw
              have hSw : Keeps wr w' := hSw
              have hx := keep1 hSw hcell
              clear hSw
              go_simp
              try with_reducible rfl
            change wpAnyH _ _ _ _ _ _ _ (Act.put _ (some 127) _) _
            try simp only [Act.put, List.setIfInBounds_toArray, List.set_cons_zero, List.set_cons_succ]
            refine wpAnyH_take (i := 11) (v := ?vv12) (by rfl) (by kernel_rfl) (by kernel_rfl) (by kernel_rfl) (by intro _ _ _ h; exact h) (Or.inl ⟨by kernel_rfl, ?hy12⟩) (by assumption) ?rest12
            case hy12 =>
              intro w' hSw
              have hSw : Keeps wr w' := hSw
              clear hSw
              go_simp
              try with_reducible rfl
            change wpAnyH _ _ _ _ _ _ _ (Act.put _ (some 128) _) _
            try simp only [Act.put, List.setIfInBounds_toArray, List.set_cons_zero, List.set_cons_succ]
            refine wpAnyH_ready (rs := [12]) (by kernel_rfl) (by simp) ?_
            refine AllReadyH.cons (o := _) rfl (fun K hK => ?_) ?_
            · go_simp
              obtain ⟨gq, hgq⟩ : ∃ z, z = (World.heap xs).size := ⟨_, rfl⟩
              have HBB : Hid (Blk (World.alloc xs (.cells #[.int .i64 ((q : Int) + 1), .slice fy yl.length fc] 75)) gq 75 #[.int .i64 ((q : Int) + 1), .slice fy yl.length fc]) := Lib.hid (Blk.new _ _ _ hgq)
              have hb := hHeld.alloc (.cells #[.int .i64 ((q : Int) + 1), .slice fy yl.length fc] 75)
              rw [← hgq]
              clear hgq
              generalize World.alloc xs (.cells #[.int .i64 ((q : Int) + 1), .slice fy yl.length fc] 75) = wB at *
              have HKB := Lib.hid hb
              have HSM := Lib.hid (same17_any (.slice pz 1 (cx - q)) (.slice (some ⟨gq, 0, none⟩) 1 1) [zx] [(q + 1, .slice fy yl.length fc, yl)] wB (HZ.out.keeps hb) ⟨rowS_blk HBB.out, fun x hx => by simp only [List.mem_singleton] at hx; subst hx; exact HGq.out.1.keeps hb, fun x hx y hy => by simp only [List.mem_singleton] at hx; subst hx; exact (HGq.out.2 y hy).keeps hb⟩ (by rw [List.map_cons, HTQ.out]; rfl) (by simp))
              refine hK.out _ _ hb (fun _ => ?_)
              clear hK K hHeld
              have hHeld : Keeps wr wB := hb
              clear hb
              try simp only [Act.put, List.setIfInBounds_toArray, List.set_cons_zero, List.set_cons_succ]
              refine wpAnyH_ready (rs := [13]) (by kernel_rfl) (by simp) ?_
              refine AllReadyH.cons (o := _) rfl (fun K hK => ?_) ?_
              · go_simp
                refine HSM.out.mono ?_
                rintro e wC ⟨rfl, hk⟩
                have HKC := Lib.hid (HKB.out.trans hk)
                have hb := hHeld.trans hk
                clear hk
                go_wp2_with fail
                refine hK.out _ _ hb (fun _ => ?_)
                clear hK K hHeld
                have hHeld : Keeps wr wC := hb
                clear hb
                try simp only [Act.put, List.setIfInBounds_toArray, List.set_cons_zero, List.set_cons_succ]
                refine wpAnyH_take (i := 14) (v := ?vv13) (by rfl) (by kernel_rfl) (by kernel_rfl) (by kernel_rfl) (by intro _ _ _ h; exact h) (Or.inl ⟨by kernel_rfl, ?hy13⟩) (by assumption) ?rest13
                case hy13 =>
                  intro w' hSw
                  have hSw : Keeps wr w' := hSw
                  clear hSw
                  go_simp
                  try with_reducible rfl
                change wpAnyH _ _ _ _ _ _ _ (Act.put _ (some 131) _) _
                try simp only [Act.put, List.setIfInBounds_toArray, List.set_cons_zero, List.set_cons_succ]
                refine wpAnyH_done (by kernel_rfl) ?_ _
                refine NoPanic.normal ?_
                go_wp2_with fail
                go_roundw
                case rel => exact ⟨q + 1, by simp, by omega, Lib.hid (HQ.out.trans HKC.out)⟩
                case measure =>
                  simp only [intOf]
                  omega
              exact AllReadyH.nil
            exact AllReadyH.nil
          · have htq : decide ((q : Int) < (m : Int)) = false := by simp; omega
            go_wp2_with fail
            go_ret
            exact ⟨rfl, HKf.out.trans HQ.out⟩
      | false =>
        rw [ho] at HDN
        have HX := Lib.hid (show Sf.downD d = (Vd.syncDirD { d with crash := Vd.setT 0 11 }).1 from by unfold Sf.downD; rw [if_neg (by simp [ho])])
        have HOF : Hid ((Vd.syncDirD { d with crash := Vd.setT 0 11 }).1.off = true) := Lib.hid (by rw [← HX.out]; exact Sf.downD_off d)
        rw [HX.out] at HEND
        have HCR := Lib.hid (Vd.crash_at HA.out 0)
        clear ho
        generalize ({ d with crash := Vd.setT 0 11 } : Vd.Dsk) = d1 at *
        go_wp2_with fail
        refine HDN.out.mono ?_
        rintro e w2 ⟨rfl, rfl⟩
        go_wp2_with fail
        refine HCR.out.mono ?_
        rintro e w2 ⟨rfl, h2⟩
        have H2 := Lib.hid h2
        clear h2 HDN HCR
        have HSD := Lib.hid (Vd.syncDir_at H2.out (by omega))
        generalize Vd.syncDirD d1 = r at *
        obtain ⟨d2, er⟩ := r
        simp only at HEND HOF
        go_wp2_with fail
        refine HSD.out.mono ?_
        rintro e w3 ⟨rfl, h3⟩
        have H3 := Lib.hid h3
        clear h3 HSD
        have HBT := Lib.hid (Vd.boot_at H3.out (by omega) t HWF.out (H3.out.arg (Keeps.refl _) HR3.out))
        rw [show (Vd.bootD (d2, er).1 t ks).2 = 0 from Vd.boot_e HOF.out t ks] at HBT
        go_wp2_with fail
        refine HBT.out.mono ?_
        rintro e w7 ⟨rfl, h7⟩
        have H7 := Lib.hid (Vd.At.mk h7.dsk h7.keep (h7.few.mono (show _ ≤ 140 by omega)))
        clear h7 HBT
        obtain ⟨s, m, hs, hm1, hm2, hm3, hm4⟩ := HEND.out
        have HM4 := Lib.hid hm4
        have hml : m ≤ l.length := by rw [← HTl.out]; exact hm3
        have HOP := Lib.hid (open_any (At.one H7.out) (by omega) nmX (by decide))
        rw [open_was hs] at HOP
        unfold OpenDid at HOP
        simp only [if_true] at HOP
        unfold nmX at HOP
        clear hs hm3 hm4 HEND
        go_wp2_with fail
        refine HOP.out.mono ?_
        rintro e w8 ⟨b8, tv8, X8, rfl, -, ho8, -, -, ht8, hx8⟩
        have HKf := Lib.hid ho8.kp
        have HXE := Lib.hid (hx8.trans HM4.out)
        have hXl : X8.length = m := by
          have h1 := congrArg List.length HXE.out
          rw [List.length_map, numd_len, List.length_take] at h1
          have := HTl.out
          omega
        obtain ⟨px, cx, rfl, -, -⟩ := Frm.ownsRow_form ht8.own
        have HX8 := Lib.hid ht8.r
        have HXL := Lib.hid hXl
        rw [hXl] at HX8 ⊢
        clear ht8 hx8 ho8 hXl HOP
        have hm20 : m ≤ 20 := by omega
        have hcx : m ≤ cx := by
          obtain ⟨_, _, e1, e2, -⟩ := HX8.out.form
          simp only [Value.slice.injEq] at e1
          have := HXL.out
          omega
        obtain ⟨mn, hmn⟩ : ∃ mn : Nat, mn = min (cn + 1) l.length := ⟨_, rfl⟩
        have hmin : (if (l.length : Int) < (cn : Int) + 1 then (l.length : Int) else (cn : Int) + 1) = (mn : Int) := by split <;> omega
        have hmm : m ≤ mn := by omega
        have q1 : decide ((m : Int) < (cn : Int)) = false := by simp; omega
        have q2 : decide ((mn : Int) < (m : Int)) = false := by simp; omega
        have q3 : decide (m < cn) = false := by simp; omega
        have q4 : decide (mn < m) = false := by simp; omega
        clear hmn hm1 hm2 hcj
        go_wp2_with fail
        go_loopw [17] (fun iv wx => ∃ q : Nat, iv = .int .i64 (q : Int) ∧ q ≤ m ∧ Hid (Keeps w8 wx)) (fun iv _ => m - (intOf iv).toNat)
        case atStart => exact ⟨0, rfl, Nat.zero_le _, Lib.hid (Keeps.refl _)⟩
        case round =>
          obtain ⟨q, rfl, hq, HQ⟩ := hrel
          clear q1 q2 q3 q4 hmin hmm
          by_cases hltq : q < m
          · have hqX : q < X8.length := by rw [HXL.out]; exact hltq
            have hql : q < l.length := by omega
            have HKq := Lib.hid (HKf.out.trans HQ.out)
            obtain ⟨b, off, cap', hv, hc⟩ := row_cells HR.out (by rw [List.length_map]; omega)
            rw [List.length_map] at hv
            simp only [Value.slice.injEq] at hv
            obtain ⟨rfl, -, rfl⟩ := hv
            have hcell : wr.cell? ⟨b, off + q, none⟩ = some l[q].1 := by
              have := hc.out q l[q].1 (by simp [hql])
              rw [HKq.out.cell (p := ⟨b, off + q, none⟩) (lt_of_cell this)]
              exact this
            have hgood := HG.out l[q] (List.getElem_mem hql)
            have HTQ := Lib.hid (show txP X8[q] = (q + 1, l[q].2.map (·.2)) from by
              have h1 := congrArg (fun z => z[q]?) HXE.out
              simp only [List.getElem?_map, List.getElem?_eq_getElem hqX, Option.map_some] at h1
              rw [numd_get _ 1 q (by rw [List.length_take, HTl.out]; omega)] at h1
              simp only [Option.some.injEq] at h1
              rw [h1, List.getElem_take, Nat.add_comm 1 q]
              have := HT.out
              subst this
              simp)
            have HXq := Lib.hid (HX8.out.keeps HQ.out)
            obtain ⟨pz, hpz⟩ := cutS_sl 2 px q (q + 1) cx
            rw [show q + 1 - q = 1 from by omega] at hpz
            have hcut : ∀ w', (Instr.slice 66 (.slice px m cx) (some (.int .i64 (q : Int))) (some (.int .i64 ((q : Int) + 1))) none).run Try.prog w' = .ok (.slice pz 1 (cx - q)) w' := fun w' => by
              rw [← hpz, show ((q : Int) + 1) = ((q + 1 : Nat) : Int) from by omega]
              exact run_cutS_lh w' Try.underlying66 (by intro w; kernel_rfl) px m cx q (q + 1) (by omega) (by omega)
            have HZ := Lib.hid (show TxsR wr (.slice pz 1 (cx - q)) [X8[q]] from by
              have h0 := HXq.out.row
              rw [← HXL.out] at h0
              have h1 := RowS.part txC_len h0 (lo := q) (hi := q + 1) (by omega) (by omega)
              rw [hpz] at h1
              have e1 : (X8.drop q).take (q + 1 - q) = [X8[q]] := by
                rw [show q + 1 - q = 1 from by omega, List.drop_eq_getElem_cons hqX]
                rfl
              rw [e1] at h1
              exact ⟨by simpa using h1, fun x hx => by simp only [List.mem_singleton] at hx; subst hx; exact HXq.out.its _ (List.getElem_mem hqX), fun x hx => by simp only [List.mem_singleton] at hx; subst hx; exact HXq.out.pay _ (List.getElem_mem hqX)⟩)
            have HGq := Lib.hid (show Row wr l[q].1 (l[q].2.map (·.1)) ∧ ∀ y ∈ l[q].2, payOk wr y from ⟨hgood.1.keeps HKq.out, fun y hy => (hgood.2 y hy).keeps HKq.out⟩)
            obtain ⟨fy, fc, hfy, -, -⟩ := hgood.1.form
            have hqi : (q : Int) < (m : Int) := by omega
            have hqli : (q : Int) < (l.length : Int) := by omega
            clear hc hgood hpz
            generalize X8[q] = zx at *
            generalize l[q] = y at *
            obtain ⟨yv, yl⟩ := y
            simp only at hcell HTQ HGq hfy
            rw [List.length_map] at hfy
            subst hfy
            have hwq : IntKind.i64.wrap ((q : Int) + 1) = (q : Int) + 1 := by rw [IntKind.wrap_i64]; omega
            go_upto_region 31 with fail
            refine wp_region_noPanic ?_
            refine wp_region_held_drew (S := fun w' => Keeps wr w') (by kernel_rfl) ((Keeps.refl wr).drew) (fun _ => ?_)
            have hHeld : Keeps wr (wr).drew := (Keeps.refl wr).drew
            generalize World.drew wr = xs at *
            refine wpAnyH_take (i := 0) (v := ?vv14) (by rfl) (by kernel_rfl) (by kernel_rfl) (by kernel_rfl) (by intro _ _ _ h; exact h) (Or.inl ⟨by kernel_rfl, ?hy14⟩) (by assumption) ?rest14
            case hy14 =>
              intro w' hSw
              have hSw : Keeps wr w' := hSw
              clear hSw
              go_simp
              try with_reducible rfl
            change wpAnyH _ _ _ _ _ _ _ (Act.put _ (some 117) _) _
            try simp only [Act.put, List.setIfInBounds_toArray, List.set_cons_zero, List.set_cons_succ]
            refine wpAnyH_take (i := 1) (v := ?vv15) (by rfl) (by kernel_rfl) (by kernel_rfl) (by kernel_rfl) (by intro _ _ _ h; exact h) (Or.inl ⟨by kernel_rfl, ?hy15⟩) (by assumption) ?rest15
            case hy15 =>
              intro w' hSw
              have hSw : Keeps wr w' := hSw
              clear hSw
              go_simp
              try with_reducible rfl
            change wpAnyH _ _ _ _ _ _ _ (Act.put _ (some 118) _) _
            try simp only [Act.put, List.setIfInBounds_toArray, List.set_cons_zero, List.set_cons_succ]
            refine wpAnyH_take (i := 2) (v := ?vv16) (by rfl) (by kernel_rfl) (by kernel_rfl) (by kernel_rfl) (by intro _ _ _ h; exact h) (Or.inl ⟨by kernel_rfl, ?hy16⟩) (by assumption) ?rest16
            case hy16 =>
              intro w' hSw
              have hSw : Keeps wr w' := hSw
              clear hSw
              go_simp
              try with_reducible rfl
            change wpAnyH _ _ _ _ _ _ _ (Act.put _ (some 119) _) _
            try simp only [Act.put, List.setIfInBounds_toArray, List.set_cons_zero, List.set_cons_succ]
            refine wpAnyH_take (i := 3) (v := ?vv17) (by rfl) (by kernel_rfl) (by kernel_rfl) (by kernel_rfl) (by intro _ _ _ h; exact h) (Or.inl ⟨by kernel_rfl, ?hy17⟩) (by assumption) ?rest17
            case hy17 =>
              intro w' hSw
              have hSw : Keeps wr w' := hSw
              clear hSw
              go_simp
              try with_reducible rfl
            change wpAnyH _ _ _ _ _ _ _ (Act.put _ (some 120) _) _
            try simp only [Act.put, List.setIfInBounds_toArray, List.set_cons_zero, List.set_cons_succ]
            refine wpAnyH_take (i := 4) (v := ?vv18) (by rfl) (by kernel_rfl) (by kernel_rfl) (by kernel_rfl) (by intro _ _ _ h; exact h) (Or.inl ⟨by kernel_rfl, ?hy18⟩) (by assumption) ?rest18
            case hy18 =>
              intro w' hSw
              have hSw : Keeps wr w' := hSw
              have hx := hcut w'
              clear hSw
              go_simp
              try with_reducible rfl
            change wpAnyH _ _ _ _ _ _ _ (Act.put _ (some 121) _) _
            try simp only [Act.put, List.setIfInBounds_toArray, List.set_cons_zero, List.set_cons_succ]
            refine wpAnyH_take (i := 5) (v := ?vv19) (by rfl) (by kernel_rfl) (by kernel_rfl) (by kernel_rfl) (by intro _ _ _ h; exact h) (Or.inl ⟨by kernel_rfl, ?hy19⟩) (by assumption) ?rest19
            case hy19 =>
              intro w' hSw
              have hSw : Keeps wr w' := hSw
              clear hSw
              go_simp
              try with_reducible rfl
            change wpAnyH _ _ _ _ _ _ _ (Act.put _ (some 122) _) _
            try simp only [Act.put, List.setIfInBounds_toArray, List.set_cons_zero, List.set_cons_succ]
            refine wpAnyH_take (i := 6) (v := ?vv20) (by rfl) (by kernel_rfl) (by kernel_rfl) (by kernel_rfl) (by intro _ _ _ h; exact h) (Or.inl ⟨by kernel_rfl, ?hy20⟩) (by assumption) ?rest20
            case hy20 =>
              intro w' hSw
              have hSw : Keeps wr w' := hSw
              clear hSw
              go_simp
              try with_reducible rfl
            change wpAnyH _ _ _ _ _ _ _ (Act.put _ (some 123) _) _
            try simp only [Act.put, List.setIfInBounds_toArray, List.set_cons_zero, List.set_cons_succ]
            refine wpAnyH_take (i := 7) (v := ?vv21) (by rfl) (by kernel_rfl) (by kernel_rfl) (by kernel_rfl) (by intro _ _ _ h; exact h) (Or.inl ⟨by kernel_rfl, ?hy21⟩) (by assumption) ?rest21
            case hy21 =>
              intro w' hSw
              have hSw : Keeps wr w' := hSw
              clear hSw
              go_simp
              try with_reducible rfl
            change wpAnyH _ _ _ _ _ _ _ (Act.put _ (some 124) _) _
            try simp only [Act.put, List.setIfInBounds_toArray, List.set_cons_zero, List.set_cons_succ]
            refine wpAnyH_take (i := 8) (v := ?vv22) (by rfl) (by kernel_rfl) (by kernel_rfl) (by kernel_rfl) (by intro _ _ _ h; exact h) (Or.inl ⟨by kernel_rfl, ?hy22⟩) (by assumption) ?rest22
            case hy22 =>
              intro w' hSw
              have hSw : Keeps wr w' := hSw
              clear hSw
              go_simp
              try with_reducible rfl
            change wpAnyH _ _ _ _ _ _ _ (Act.put _ (some 125) _) _
            try simp only [Act.put, List.setIfInBounds_toArray, List.set_cons_zero, List.set_cons_succ]
            refine wpAnyH_take (i := 9) (v := ?vv23) (by rfl) (by kernel_rfl) (by kernel_rfl) (by kernel_rfl) (by intro _ _ _ h; exact h) (Or.inl ⟨by kernel_rfl, ?hy23⟩) (by assumption) ?rest23
            case hy23 =>
              intro w' hSw
              have hSw : Keeps wr w' := hSw
              clear hSw
              go_simp
              try with_reducible rfl
            change wpAnyH _ _ _ _ _ _ _ (Act.put _ (some 126) _) _
            try simp only [Act.put, List.setIfInBounds_toArray, List.set_cons_zero, List.set_cons_succ]
            refine wpAnyH_take (i := 10) (v := ?vv24) (by rfl) (by kernel_rfl) (by kernel_rfl) (by kernel_rfl) (by intro _ _ _ h; exact h) (Or.inl ⟨by kernel_rfl, ?hy24⟩) (by assumption) ?rest24
            case hy24 =>
              intro w' hSw
              have hSw : Keeps wr w' := hSw
              have hx := keep1 hSw hcell
              clear hSw
              go_simp
              try with_reducible rfl
            change wpAnyH _ _ _ _ _ _ _ (Act.put _ (some 127) _) _
            try simp only [Act.put, List.setIfInBounds_toArray, List.set_cons_zero, List.set_cons_succ]
            refine wpAnyH_take (i := 11) (v := ?vv25) (by rfl) (by kernel_rfl) (by kernel_rfl) (by kernel_rfl) (by intro _ _ _ h; exact h) (Or.inl ⟨by kernel_rfl, ?hy25⟩) (by assumption) ?rest25
            case hy25 =>
              intro w' hSw
              have hSw : Keeps wr w' := hSw
              clear hSw
              go_simp
              try with_reducible rfl
            change wpAnyH _ _ _ _ _ _ _ (Act.put _ (some 128) _) _
            try simp only [Act.put, List.setIfInBounds_toArray, List.set_cons_zero, List.set_cons_succ]
            refine wpAnyH_ready (rs := [12]) (by kernel_rfl) (by simp) ?_
            refine AllReadyH.cons (o := _) rfl (fun K hK => ?_) ?_
            · go_simp
              obtain ⟨gq, hgq⟩ : ∃ z, z = (World.heap xs).size := ⟨_, rfl⟩
              have HBB : Hid (Blk (World.alloc xs (.cells #[.int .i64 ((q : Int) + 1), .slice fy yl.length fc] 75)) gq 75 #[.int .i64 ((q : Int) + 1), .slice fy yl.length fc]) := Lib.hid (Blk.new _ _ _ hgq)
              have hb := hHeld.alloc (.cells #[.int .i64 ((q : Int) + 1), .slice fy yl.length fc] 75)
              rw [← hgq]
              clear hgq
              generalize World.alloc xs (.cells #[.int .i64 ((q : Int) + 1), .slice fy yl.length fc] 75) = wB at *
              have HKB := Lib.hid hb
              have HSM := Lib.hid (same17_any (.slice pz 1 (cx - q)) (.slice (some ⟨gq, 0, none⟩) 1 1) [zx] [(q + 1, .slice fy yl.length fc, yl)] wB (HZ.out.keeps hb) ⟨rowS_blk HBB.out, fun x hx => by simp only [List.mem_singleton] at hx; subst hx; exact HGq.out.1.keeps hb, fun x hx y hy => by simp only [List.mem_singleton] at hx; subst hx; exact (HGq.out.2 y hy).keeps hb⟩ (by rw [List.map_cons, HTQ.out]; rfl) (by simp))
              refine hK.out _ _ hb (fun _ => ?_)
              clear hK K hHeld
              have hHeld : Keeps wr wB := hb
              clear hb
              try simp only [Act.put, List.setIfInBounds_toArray, List.set_cons_zero, List.set_cons_succ]
              refine wpAnyH_ready (rs := [13]) (by kernel_rfl) (by simp) ?_
              refine AllReadyH.cons (o := _) rfl (fun K hK => ?_) ?_
              · go_simp
                refine HSM.out.mono ?_
                rintro e wC ⟨rfl, hk⟩
                have HKC := Lib.hid (HKB.out.trans hk)
                have hb := hHeld.trans hk
                clear hk
                go_wp2_with fail
                refine hK.out _ _ hb (fun _ => ?_)
                clear hK K hHeld
                have hHeld : Keeps wr wC := hb
                clear hb
                try simp only [Act.put, List.setIfInBounds_toArray, List.set_cons_zero, List.set_cons_succ]
                refine wpAnyH_take (i := 14) (v := ?vv26) (by rfl) (by kernel_rfl) (by kernel_rfl) (by kernel_rfl) (by intro _ _ _ h; exact h) (Or.inl ⟨by kernel_rfl, ?hy26⟩) (by assumption) ?rest26
                case hy26 =>
                  intro w' hSw
                  have hSw : Keeps wr w' := hSw
                  clear hSw
                  go_simp
                  try with_reducible rfl
                change wpAnyH _ _ _ _ _ _ _ (Act.put _ (some 131) _) _
                try simp only [Act.put, List.setIfInBounds_toArray, List.set_cons_zero, List.set_cons_succ]
                refine wpAnyH_done (by kernel_rfl) ?_ _
                refine NoPanic.normal ?_
                go_wp2_with fail
                go_roundw
                case rel => exact ⟨q + 1, by simp, by omega, Lib.hid (HQ.out.trans HKC.out)⟩
                case measure =>
                  simp only [intOf]
                  omega
              exact AllReadyH.nil
            exact AllReadyH.nil
          · have htq : decide ((q : Int) < (m : Int)) = false := by simp; omega
            go_wp2_with fail
            go_ret
            exact ⟨rfl, HKf.out.trans HQ.out⟩
end Txl
end Go.Proofs.Ytchjncnolmiejaa
