/- The law FrameBack, walked. -/
import Derived.Test.YtfmjlgkbohidjaaFrameRows
import Derived.Test.YtfmjlgkbohidjaaFrameSame
import Derived.Test.YtfmjlgkbohidjaaOctetLaws
namespace Go.Proofs.Ytfmjlgkbohidjaa
open Go.RowKit
namespace Frm
open Oct

/-- what a cut list of frames is read as -/
theorem row_take {F : List (Nat × List UInt8)} (hok : ∀ x ∈ F, x.1 ≤ 255 ∧ x.2.length ≤ 1000) {c : Nat} (hc : c ≤ (cat F).length) :
    (rowR ((cat F).take c)).1.map (fun f => (f.kind, f.pay)) = (F.take (whole F c)).map (fun x => ((x.1 : Int), x.2)) ∧ (rowR ((cat F).take c)).2.2 = if c = (cat (F.take (whole F c))).length then 0 else 2 :=
  row_cat _ F c _ 0 (fun x hx => ⟨(hok x hx).1, by have := (hok x hx).2; omega⟩) hc (Nat.zero_le _) (by omega) (by simp)
theorem whole_pos {F : List (Nat × List UInt8)} (hok : ∀ x ∈ F, x.1 ≤ 255 ∧ x.2.length ≤ 1000) {c : Nat} (h : 0 < whole F c) : 1 ≤ c := by
  cases F with
  | nil => simp [whole] at h
  | cons x F =>
    unfold whole at h
    split at h
    · obtain ⟨h1, h2⟩ := hok x (by simp)
      have := wrapL_pos h1 (show x.2.length ≤ 65536 by omega)
      omega
    · omega

/-- how the law's last test comes out -/
theorem back_test {F : List (Nat × List UInt8)} (hok : ∀ x ∈ F, x.1 ≤ 255 ∧ x.2.length ≤ 1000) {c : Nat} :
    (whole F c = 0 ∧ c = 0 ∧ c = (cat (F.take (whole F c))).length) ∨ (whole F c = 0 ∧ c ≠ 0 ∧ c ≠ (cat (F.take (whole F c))).length) ∨ (∃ m, whole F c = m + 1 ∧ c ≠ 0 ∧ endAt F m = c ∧ c = (cat (F.take (whole F c))).length) ∨ (∃ m, whole F c = m + 1 ∧ c ≠ 0 ∧ endAt F m ≠ c ∧ c ≠ (cat (F.take (whole F c))).length) := by
  rcases Nat.eq_zero_or_pos (whole F c) with h | h
  · rw [h]
    by_cases h0 : c = 0
    · left; exact ⟨rfl, h0, by simp [cat, h0]⟩
    · right; left; exact ⟨rfl, h0, by simp [cat, h0]⟩
  · have hc := whole_pos hok h
    obtain ⟨m, hm⟩ : ∃ m, whole F c = m + 1 := ⟨whole F c - 1, by omega⟩
    rw [hm]
    by_cases he : endAt F m = c
    · right; right; left; exact ⟨m, rfl, by omega, he, he.symm⟩
    · right; right; right; exact ⟨m, rfl, by omega, he, fun h => he h.symm⟩

set_option maxRecDepth 100000 in
set_option maxHeartbeats 8000000 in
theorem frameBack_walk (W : World) (v0 : Value) (l : List (Value × List UInt8)) (v1 : Value) (ks : List UInt8) (cut : Int) (r0 : RowS W 1 v0 l.length (l.flatMap payC)) (w0 : ∀ y ∈ l, payOk W y) (r1 : Row W v1 (ks.map u8v)) (_w2 : (Lit.int .i64 cut).wf = true) :
    Calls Try.prog 14 #[v0, v1, .int .i64 cut] W fun e w' => e = .returned (.bool true) ∧ Keeps W w' := by
  have r0 := r0.row
  rw [pay_map] at r0
  obtain ⟨hcw1, hcw2⟩ := i64_wf _w2
  clear _w2
  obtain ⟨p, cap, rfl, hc1, hc2⟩ := r0.form
  rw [List.length_map] at hc1 ⊢
  obtain ⟨p1, cap1, rfl, hc3, hc4⟩ := r1.formB
  unfold maxLen at hc2
  have HR := Lib.hid r0
  rw [List.length_map] at HR
  have HR1 := Lib.hid r1
  have HP := Lib.hid w0
  have CB := Lib.hid (fun w (k : Keeps W w) => bulk_any (.slice p l.length cap) l w (HR.out.keeps k) (fun x hx => (HP.out x hx).keeps k))
  clear r0 r1 w0
  go_enter Try.func14, Try.ntmps14
  go_wp2_with fail
  refine (awake_any _).mono ?_
  rintro e w1 ⟨rfl, hK1⟩
  have HK1 := Lib.hid hK1
  clear hK1
  go_wp2_with fail
  refine (CB.out _ HK1.out).mono ?_
  rintro e w2 ⟨n, rfl, hsmall, rfl⟩
  have HSm := Lib.hid hsmall
  clear hsmall
  by_cases hn : 1000 < n
  · have hnI : (1000 : Int) < n := by omega
    go_wp2_with fail
    go_ret
    exact ⟨rfl, HK1.out⟩
  have hnI : decide ((1000 : Int) < n) = false := by simp; omega
  by_cases hl : 30 < l.length
  · have hlI : (30 : Int) < l.length := by omega
    go_wp2_with fail
    go_ret
    exact ⟨rfl, HK1.out⟩
  have hlI : decide ((30 : Int) < l.length) = false := by simp; omega
  by_cases hk : ks.length < l.length
  · have hkI : (ks.length : Int) < l.length := by omega
    go_wp2_with fail
    go_ret
    exact ⟨rfl, HK1.out⟩
  have hkI : decide ((ks.length : Int) < l.length) = false := by simp; omega
  have hs := HSm.out (by omega)
  have HS := Lib.hid hs
  have HZ := Lib.hid (zipF_ok (ks := ks) hs)
  have HZl := Lib.hid (zipF_len (ks := ks) (l := l) (by omega))
  have HZa := Lib.hid (fun i h1 h2 => zipF_at (ks := ks) (l := l) (i := i) h1 h2)
  have CR := Lib.hid (fun w (k : Keeps W w) => rows_any (.slice p l.length cap) (.slice p1 ks.length cap1) l ks w (HR.out.keeps k) (fun x hx => (HP.out x hx).keeps k) (HR1.out.keeps k) (by omega) (by omega) HS.out)
  clear hs
  generalize zipF ks l = F at *
  have hFl : (cat F).length ≤ 60570 := by
    have := cat_len F HZ.out
    have h3 := HZl.out
    omega
  go_wp2_with fail
  refine (CR.out _ HK1.out).mono ?_
  rintro e w3 ⟨va, ve, rfl, hA, hE, hK3⟩
  obtain ⟨pa, ca, rfl, hca1, hca2⟩ := hA.row.formB
  obtain ⟨pe, ce, rfl, hce1, hce2⟩ := hE.row.form
  have hel : (endsL F l.length).length = l.length := by simp [endsL]
  rw [hel] at hce1 ⊢
  have HA := Lib.hid hA
  have HE := Lib.hid hE
  rw [hel] at HE
  have HK3 := Lib.hid (HK1.out.trans hK3)
  clear hA hE hK3 hel
  by_cases hcut : cut < 0 ∨ ((cat F).length : Int) < cut
  · have hcut' : cut < 0 ∨ (0 ≤ cut ∧ ((cat F).length : Int) < cut) := by omega
    clear hcut
    rcases hcut' with h | ⟨h, h'⟩
    · go_upto_region 9 with fail
      clear h
      have hcA : (cat F).length ≤ (cat F).length := by omega
      have HT := Lib.hid (row_take HZ.out hcA)
      have HB := Lib.hid (back_test HZ.out (c := (cat F).length))
      have hwh : whole F (cat F).length ≤ l.length := by have := whole_le F (cat F).length; have h3 := HZl.out; omega
      have HWE := Lib.hid (fun i (h : i < F.length) => whole_ends F (cat F).length i h)
      have hrow : ∀ w', Keeps w3 w' → Row w' (cutv pa 0 (cat F).length ca) (((cat F).take (cat F).length).map u8v) := fun w' k => by
        have h := (HA.out.keeps k).row.cut (lo := 0) (hi := (cat F).length) (Nat.zero_le _) (by rw [List.length_map]; exact hcA)
        rw [List.drop_zero, Nat.sub_zero, ← List.map_take] at h
        exact h
      have HRow := Lib.hid hrow
      have eh : ∀ w', (Instr.slice 22 (.slice pa (cat F).length ca) none (some (.int .i64 ((cat F).length : Int))) none).run Try.prog w' = .ok (cutv pa 0 (cat F).length ca) w' := fun w' => run_cut_h w' Try.underlying22 s5 pa (cat F).length ca (cat F).length (by omega)
      have hL9 : ((cat F).take (cat F).length).length ≤ 60570 := by have := List.length_take_le (cat F).length (cat F); omega
      have HEB : Hid (∀ i, i < l.length → endAt F i ≤ 60570) := Lib.hid (fun i h => by
        unfold endAt
        have := cat_len (F.take (i + 1)) (fun x hx => HZ.out x (List.mem_of_mem_take hx))
        have h2 := List.length_take_le (i + 1) F
        have h3 := HZl.out
        omega)
      have C57 := Lib.hid (fun w' (k : Keeps w3 w') => row_any (cutv pa 0 (cat F).length ca) ((cat F).take (cat F).length) w' (HRow.out w' k) (by omega))
      generalize rowR ((cat F).take (cat F).length) = rr at *
      obtain ⟨fs, uu, er⟩ := rr
      simp only at HT C57
      clear hrow
      generalize hW : whole F (cat F).length = m at *
      clear hW
      go_wp2_with fail
      go_loopw [9, 10] (fun nv iv wr => ∃ i : Nat, iv = .int .i64 (i : Int) ∧ i ≤ l.length ∧ nv = .int .i64 ((min i m : Nat) : Int) ∧ wr = w3) (fun _ iv _ => l.length - (intOf iv).toNat)
      case atStart => exact ⟨0, rfl, Nat.zero_le _, by simp, rfl⟩
      case round =>
        obtain ⟨i, rfl, hi, rfl, rfl⟩ := hrel
        by_cases hlt : i < l.length
        · have hiF : i < F.length := by have := HZl.out; omega
          obtain ⟨ge, ce', hve, -, -, -⟩ := HE.out.form (by simp [endsL]; omega)
          simp only [Value.slice.injEq] at hve
          obtain ⟨rfl, -, rfl⟩ := hve
          have hce : wr.cell? ⟨ge, i, none⟩ = some (.int .i64 (endAt F i : Nat)) := HE.out.cellAt i _ (by simp [endsL, hlt])
          have heb := HEB.out i hlt
          have hwi := HWE.out i hiF
          generalize endAt F i = ei at *
          by_cases hle : ei ≤ (cat F).length
          · have him := hwi.1 hle
            have hmin : min (i + 1) m = i + 1 := by omega
            have hleI : (ei : Int) ≤ ((cat F).length : Int) := by omega
            clear hwi
            go_wp2_with fail
            go_roundw
            case rel => exact ⟨i + 1, by simp, by omega, by rw [hmin]; simp, trivial⟩
            case measure =>
              simp only [intOf]
              omega
          · have him : m ≤ i := by
              rcases Nat.lt_or_ge i m with h | h
              · exact absurd (hwi.2 h) hle
              · exact h
            have hmin : min (i + 1) m = min i m := by omega
            have hleI : decide ((ei : Int) ≤ ((cat F).length : Int)) = false := by simp; omega
            clear hwi
            go_wp2_with fail
            go_roundw
            case rel => exact ⟨i + 1, by simp, by omega, by rw [hmin], trivial⟩
            case measure =>
              simp only [intOf]
              omega
        · have hmin : min i m = m := by omega
          rw [hmin]
          clear hmin
          go_wp2_with fail
          refine (C57.out _ (Keeps.refl _)).mono ?_
          rintro e w4 ⟨vf, fl, rfl, hfl, hmf, hK4⟩
          obtain ⟨pf, cf, rfl, hcf1, hcf2⟩ := ownsRow_form hfl.own
          have hfm : fl.length = m := by
            have h1 := congrArg List.length HT.out.1
            rw [← hmf] at h1
            simp only [List.length_map, List.length_take] at h1
            have := HZl.out
            omega
          have HFk : Hid (∀ j (h1 : j < fl.length) (h2 : j < l.length) (h3 : j < ks.length), fl[j].1.kind = (ks[j].toNat : Int) ∧ fl[j].1.pay = l[j].2) := Lib.hid (fun j h1 h2 h3 => by
            have h := congrArg (fun z => z[j]?) HT.out.1
            rw [← hmf] at h
            simp only [List.getElem?_map, List.getElem?_take, HZa.out j h3 h2, List.getElem?_eq_getElem h1] at h
            rw [if_pos (by omega)] at h
            simp only [Option.map_some, Option.some.injEq, Prod.mk.injEq] at h
            exact h)
          have HFl := Lib.hid hfl
          have HK4 := Lib.hid (HK3.out.trans hK4)
          have HE4 := Lib.hid (HE.out.keeps hK4)
          have HT2 := Lib.hid HT.out.2
          have HFm := Lib.hid hfm
          rw [hfm] at hcf1 ⊢
          rw [hfm] at HFl
          clear hfl hmf hK4 HT C57 eh hfm
          go_upto_region 15 with fail
          go_cut [101] (fun t wx => t = .bool false ∧ wx = w4)
          case first =>
            as_aux_lemma =>
              rcases HB.out with ⟨h1, h2, h3⟩ | ⟨h1, h2, h3⟩ | ⟨k, h1, h2, h4, h3⟩ | ⟨k, h1, h2, h4, h3⟩
              · have he : er = 0 := by rw [HT2.out, if_pos h3]
                have ec : ((((cat F).length : Nat) : Int) == 0) = true := by rw [beq_iff_eq]; omega
                subst he h1
                clear h2 h3 HB HT2
                go_wp2_with fail
                go_meet
                exact ⟨rfl, rfl⟩
              · have he : er = 2 := by rw [HT2.out, if_neg h3]
                have ec : ((((cat F).length : Nat) : Int) == 0) = false := by rw [beq_eq_false_iff_ne]; omega
                subst he h1
                clear h2 h3 HB HT2
                go_wp2_with fail
                go_meet
                exact ⟨rfl, rfl⟩
              all_goals
                obtain ⟨ge, ce', hve, -, -, -⟩ := HE4.out.form (by simp [endsL]; omega)
                simp only [Value.slice.injEq] at hve
                obtain ⟨rfl, -, rfl⟩ := hve
                have hkl : k < l.length := by omega
                have hce : w4.cell? ⟨ge, k, none⟩ = some (.int .i64 (endAt F k : Nat)) := HE4.out.cellAt k _ (by simp [endsL, hkl])
                have ec : ((((cat F).length : Nat) : Int) == 0) = false := by rw [beq_eq_false_iff_ne]; omega
                have heb := HEB.out k hkl
              · have he : er = 0 := by rw [HT2.out, if_pos h3]
                have e4 : ((endAt F k : Int) == (((cat F).length : Nat) : Int)) = true := by rw [beq_iff_eq]; omega
                clear h3 HB HT2 h4
                subst he h1
                generalize endAt F k = ek at *
                go_wp2_with fail
                go_meet
                exact ⟨rfl, rfl⟩
              · have he : er = 2 := by rw [HT2.out, if_neg h3]
                have e4 : ((endAt F k : Int) == (((cat F).length : Nat) : Int)) = false := by rw [beq_eq_false_iff_ne]; omega
                clear h3 HB HT2 h4
                subst he h1
                generalize endAt F k = ek at *
                go_wp2_with fail
                go_meet
                exact ⟨rfl, rfl⟩
          case rest =>
          obtain ⟨rfl, rfl⟩ := hcut
          clear HB HT2 HEB
          go_wp2_with fail
          go_loopw [14] (fun iv wr => ∃ j : Nat, iv = .int .i64 (j : Int) ∧ j ≤ m ∧ Keeps wc wr) (fun iv _ => m - (intOf iv).toNat)
          case atStart => exact ⟨0, rfl, Nat.zero_le _, Keeps.refl _⟩
          case round =>
            obtain ⟨j, rfl, hj, hKj⟩ := hrel
            have HKj := Lib.hid hKj
            by_cases hlj : j < m
            · have hjl : j < l.length := by omega
              have hjk : j < ks.length := by omega
              have hjf : j < fl.length := by have := HFm.out; omega
              obtain ⟨g, hpf, ⟨-, -, hk2, hk3⟩, hrp⟩ := (HFl.out.keeps hKj).one hjf
              subst hpf
              have hkk := HFk.out j hjf hjl hjk
              rw [hkk.1] at hk2
              rw [hkk.2] at hrp
              obtain ⟨b, off, cap', hv, hc⟩ := row_cells (HR.out.keeps (HK4.out.trans hKj)) (by rw [List.length_map]; omega)
              obtain ⟨b1, off1, cap1', hv1, -, -, hc1'⟩ := (HR1.out.keeps (HK4.out.trans hKj)).bytesAt (by omega)
              rw [List.length_map] at hv
              simp only [Value.slice.injEq] at hv hv1
              obtain ⟨rfl, -, rfl⟩ := hv
              obtain ⟨rfl, -, rfl⟩ := hv1
              have hcell : wr.cell? ⟨b, off + j, none⟩ = some l[j].1 := hc.out j _ (by simp [hjl])
              have hcell1 : wr.cell? ⟨b1, off1 + j, none⟩ = some (.int .u8 (ks[j].toNat : Int)) := hc1'.out j _ (by simp [hjk])
              have hpay : payOk wr l[j] := (HP.out l[j] (List.getElem_mem hjl)).keeps (HK4.out.trans hKj)
              have hkb := ks[j].toNat_lt
              unfold payOk at hpay
              have HPay := Lib.hid hpay
              have HRp := Lib.hid hrp
              clear hkk hrp hpay
              generalize l[j] = y at *
              generalize ks[j] = kd at *
              generalize fl[j] = fy at *
              have hwk : IntKind.i64.wrap (kd.toNat : Int) = (kd.toNat : Int) := IntWalk.i64_in _ (by omega)
              go_upto_region 20 with fail
              refine wp_region_noPanic ?_
              refine wp_region_held_drew (S := fun w' => Keeps (wr) w') (by kernel_rfl) ((Keeps.refl _).drew) (fun _ => ?_)
              have hHeld : Keeps (wr) (wr).drew := (Keeps.refl _).drew
              refine wpAnyH_take (i := 0) (v := ?vv1) (by rfl) (by kernel_rfl) (by kernel_rfl) (by kernel_rfl) (by intro _ _ _ h; exact h) (Or.inl ⟨by kernel_rfl, ?hy1⟩) (by assumption) ?rest1
              case hy1 =>
                intro w' hSw
                have hSw : Keeps _ w' := hSw
                clear hSw
                go_simp
                try with_reducible rfl
              change wpAnyH _ _ _ _ _ _ _ (Act.put _ (some 107) _) _
              try simp only [Act.put, List.setIfInBounds_toArray, List.set_cons_zero, List.set_cons_succ]
              refine wpAnyH_take (i := 1) (v := ?vv2) (by rfl) (by kernel_rfl) (by kernel_rfl) (by kernel_rfl) (by intro _ _ _ h; exact h) (Or.inl ⟨by kernel_rfl, ?hy2⟩) (by assumption) ?rest2
              case hy2 =>
                intro w' hSw
                have hSw : Keeps _ w' := hSw
                clear hSw
                go_simp
                try with_reducible rfl
              change wpAnyH _ _ _ _ _ _ _ (Act.put _ (some 108) _) _
              try simp only [Act.put, List.setIfInBounds_toArray, List.set_cons_zero, List.set_cons_succ]
              refine wpAnyH_take (i := 2) (v := ?vv3) (by rfl) (by kernel_rfl) (by kernel_rfl) (by kernel_rfl) (by intro _ _ _ h; exact h) (Or.inl ⟨by kernel_rfl, ?hy3⟩) (by assumption) ?rest3
              case hy3 =>
                intro w' hSw
                have hSw : Keeps _ w' := hSw
                clear hSw
                go_simp
                try with_reducible rfl
              change wpAnyH _ _ _ _ _ _ _ (Act.put _ (some 109) _) _
              try simp only [Act.put, List.setIfInBounds_toArray, List.set_cons_zero, List.set_cons_succ]
              refine wpAnyH_take (i := 3) (v := ?vv4) (by rfl) (by kernel_rfl) (by kernel_rfl) (by kernel_rfl) (by intro _ _ _ h; exact h) (Or.inl ⟨by kernel_rfl, ?hy4⟩) (by assumption) ?rest4
              case hy4 =>
                intro w' hSw
                have hSw : Keeps _ w' := hSw
                clear hSw
                go_simp
                try with_reducible rfl
              change wpAnyH _ _ _ _ _ _ _ (Act.put _ (some 110) _) _
              try simp only [Act.put, List.setIfInBounds_toArray, List.set_cons_zero, List.set_cons_succ]
              refine wpAnyH_take (i := 4) (v := ?vv5) (by rfl) (by kernel_rfl) (by kernel_rfl) (by kernel_rfl) (by intro _ _ _ h; exact h) (Or.inl ⟨by kernel_rfl, ?hy5⟩) (by assumption) ?rest5
              case hy5 =>
                intro w' hSw
                have hSw : Keeps _ w' := hSw
                have hx := keep1 hSw hk2
                clear hSw
                go_simp
                try with_reducible rfl
              change wpAnyH _ _ _ _ _ _ _ (Act.put _ (some 111) _) _
              try simp only [Act.put, List.setIfInBounds_toArray, List.set_cons_zero, List.set_cons_succ]
              refine wpAnyH_take (i := 5) (v := ?vv6) (by rfl) (by kernel_rfl) (by kernel_rfl) (by kernel_rfl) (by intro _ _ _ h; exact h) (Or.inl ⟨by kernel_rfl, ?hy6⟩) (by assumption) ?rest6
              case hy6 =>
                intro w' hSw
                have hSw : Keeps _ w' := hSw
                clear hSw
                go_simp
                try with_reducible rfl
              change wpAnyH _ _ _ _ _ _ _ (Act.put _ (some 112) _) _
              try simp only [Act.put, List.setIfInBounds_toArray, List.set_cons_zero, List.set_cons_succ]
              refine wpAnyH_take (i := 6) (v := ?vv7) (by rfl) (by kernel_rfl) (by kernel_rfl) (by kernel_rfl) (by intro _ _ _ h; exact h) (Or.inl ⟨by kernel_rfl, ?hy7⟩) (by assumption) ?rest7
              case hy7 =>
                intro w' hSw
                have hSw : Keeps _ w' := hSw
                clear hSw
                go_simp
                try with_reducible rfl
              change wpAnyH _ _ _ _ _ _ _ (Act.put _ (some 113) _) _
              try simp only [Act.put, List.setIfInBounds_toArray, List.set_cons_zero, List.set_cons_succ]
              refine wpAnyH_take (i := 7) (v := ?vv8) (by rfl) (by kernel_rfl) (by kernel_rfl) (by kernel_rfl) (by intro _ _ _ h; exact h) (Or.inl ⟨by kernel_rfl, ?hy8⟩) (by assumption) ?rest8
              case hy8 =>
                intro w' hSw
                have hSw : Keeps _ w' := hSw
                clear hSw
                go_simp
                try with_reducible rfl
              change wpAnyH _ _ _ _ _ _ _ (Act.put _ (some 114) _) _
              try simp only [Act.put, List.setIfInBounds_toArray, List.set_cons_zero, List.set_cons_succ]
              refine wpAnyH_take (i := 8) (v := ?vv9) (by rfl) (by kernel_rfl) (by kernel_rfl) (by kernel_rfl) (by intro _ _ _ h; exact h) (Or.inl ⟨by kernel_rfl, ?hy9⟩) (by assumption) ?rest9
              case hy9 =>
                intro w' hSw
                have hSw : Keeps _ w' := hSw
                have hx := keep1 hSw hcell1
                clear hSw
                go_simp
                try with_reducible rfl
              change wpAnyH _ _ _ _ _ _ _ (Act.put _ (some 115) _) _
              try simp only [Act.put, List.setIfInBounds_toArray, List.set_cons_zero, List.set_cons_succ]
              refine wpAnyH_take (i := 9) (v := ?vv10) (by rfl) (by kernel_rfl) (by kernel_rfl) (by kernel_rfl) (by intro _ _ _ h; exact h) (Or.inl ⟨by kernel_rfl, ?hy10⟩) (by assumption) ?rest10
              case hy10 =>
                intro w' hSw
                have hSw : Keeps _ w' := hSw
                clear hSw
                go_simp
                try with_reducible rfl
              change wpAnyH _ _ _ _ _ _ _ (Act.put _ (some 116) _) _
              try simp only [Act.put, List.setIfInBounds_toArray, List.set_cons_zero, List.set_cons_succ]
              refine wpAnyH_take (i := 10) (v := ?vv11) (by rfl) (by kernel_rfl) (by kernel_rfl) (by kernel_rfl) (by intro _ _ _ h; exact h) (Or.inl ⟨by kernel_rfl, ?hy11⟩) (by assumption) ?rest11
              case hy11 =>
                intro w' hSw
                have hSw : Keeps _ w' := hSw
                clear hSw
                go_simp
                try with_reducible rfl
              change wpAnyH _ _ _ _ _ _ _ (Act.put _ (some 117) _) _
              try simp only [Act.put, List.setIfInBounds_toArray, List.set_cons_zero, List.set_cons_succ]
              refine wpAnyH_take (i := 11) (v := ?vv12) (by rfl) (by kernel_rfl) (by kernel_rfl) (by kernel_rfl) (by intro _ _ _ h; exact h) (Or.inl ⟨by kernel_rfl, ?hy12⟩) (by assumption) ?rest12
              case hy12 =>
                intro w' hSw
                have hSw : Keeps _ w' := hSw
                clear hSw
                go_simp
                try with_reducible rfl
              change wpAnyH _ _ _ _ _ _ _ (Act.put _ (some 118) _) _
              try simp only [Act.put, List.setIfInBounds_toArray, List.set_cons_zero, List.set_cons_succ]
              refine wpAnyH_take (i := 12) (v := ?vv13) (by rfl) (by kernel_rfl) (by kernel_rfl) (by kernel_rfl) (by intro _ _ _ h; exact h) (Or.inl ⟨by kernel_rfl, ?hy13⟩) (by assumption) ?rest13
              case hy13 =>
                intro w' hSw
                have hSw : Keeps _ w' := hSw
                clear hSw
                go_simp
                try with_reducible rfl
              change wpAnyH _ _ _ _ _ _ _ (Act.put _ (some 119) _) _
              try simp only [Act.put, List.setIfInBounds_toArray, List.set_cons_zero, List.set_cons_succ]
              refine wpAnyH_take (i := 13) (v := ?vv14) (by rfl) (by kernel_rfl) (by kernel_rfl) (by kernel_rfl) (by intro _ _ _ h; exact h) (Or.inl ⟨by kernel_rfl, ?hy14⟩) (by assumption) ?rest14
              case hy14 =>
                intro w' hSw
                have hSw : Keeps _ w' := hSw
                clear hSw
                go_simp
                try with_reducible rfl
              change wpAnyH _ _ _ _ _ _ _ (Act.put _ (some 120) _) _
              try simp only [Act.put, List.setIfInBounds_toArray, List.set_cons_zero, List.set_cons_succ]
              refine wpAnyH_take (i := 14) (v := ?vv15) (by rfl) (by kernel_rfl) (by kernel_rfl) (by kernel_rfl) (by intro _ _ _ h; exact h) (Or.inl ⟨by kernel_rfl, ?hy15⟩) (by assumption) ?rest15
              case hy15 =>
                intro w' hSw
                have hSw : Keeps _ w' := hSw
                clear hSw
                go_simp
                try with_reducible rfl
              change wpAnyH _ _ _ _ _ _ _ (Act.put _ (some 121) _) _
              try simp only [Act.put, List.setIfInBounds_toArray, List.set_cons_zero, List.set_cons_succ]
              refine wpAnyH_take (i := 15) (v := ?vv16) (by rfl) (by kernel_rfl) (by kernel_rfl) (by kernel_rfl) (by intro _ _ _ h; exact h) (Or.inl ⟨by kernel_rfl, ?hy16⟩) (by assumption) ?rest16
              case hy16 =>
                intro w' hSw
                have hSw : Keeps _ w' := hSw
                clear hSw
                go_simp
                try with_reducible rfl
              change wpAnyH _ _ _ _ _ _ _ (Act.put _ (some 122) _) _
              try simp only [Act.put, List.setIfInBounds_toArray, List.set_cons_zero, List.set_cons_succ]
              refine wpAnyH_take (i := 16) (v := ?vv17) (by rfl) (by kernel_rfl) (by kernel_rfl) (by kernel_rfl) (by intro _ _ _ h; exact h) (Or.inl ⟨by kernel_rfl, ?hy17⟩) (by assumption) ?rest17
              case hy17 =>
                intro w' hSw
                have hSw : Keeps _ w' := hSw
                have hx := keep1 hSw hk3
                clear hSw
                go_simp
                try with_reducible rfl
              change wpAnyH _ _ _ _ _ _ _ (Act.put _ (some 123) _) _
              try simp only [Act.put, List.setIfInBounds_toArray, List.set_cons_zero, List.set_cons_succ]
              refine wpAnyH_take (i := 17) (v := ?vv18) (by rfl) (by kernel_rfl) (by kernel_rfl) (by kernel_rfl) (by intro _ _ _ h; exact h) (Or.inl ⟨by kernel_rfl, ?hy18⟩) (by assumption) ?rest18
              case hy18 =>
                intro w' hSw
                have hSw : Keeps _ w' := hSw
                have hc := str_at' (HRp.out.keeps hSw)
                clear hSw
                go_simp
                try with_reducible rfl
              change wpAnyH _ _ _ _ _ _ _ (Act.put _ (some 124) _) _
              try simp only [Act.put, List.setIfInBounds_toArray, List.set_cons_zero, List.set_cons_succ]
              refine wpAnyH_take (i := 18) (v := ?vv19) (by rfl) (by kernel_rfl) (by kernel_rfl) (by kernel_rfl) (by intro _ _ _ h; exact h) (Or.inl ⟨by kernel_rfl, ?hy19⟩) (by assumption) ?rest19
              case hy19 =>
                intro w' hSw
                have hSw : Keeps _ w' := hSw
                clear hSw
                go_simp
                try with_reducible rfl
              change wpAnyH _ _ _ _ _ _ _ (Act.put _ (some 125) _) _
              try simp only [Act.put, List.setIfInBounds_toArray, List.set_cons_zero, List.set_cons_succ]
              refine wpAnyH_take (i := 19) (v := ?vv20) (by rfl) (by kernel_rfl) (by kernel_rfl) (by kernel_rfl) (by intro _ _ _ h; exact h) (Or.inl ⟨by kernel_rfl, ?hy20⟩) (by assumption) ?rest20
              case hy20 =>
                intro w' hSw
                have hSw : Keeps _ w' := hSw
                clear hSw
                go_simp
                try with_reducible rfl
              change wpAnyH _ _ _ _ _ _ _ (Act.put _ (some 126) _) _
              try simp only [Act.put, List.setIfInBounds_toArray, List.set_cons_zero, List.set_cons_succ]
              refine wpAnyH_take (i := 20) (v := ?vv21) (by rfl) (by kernel_rfl) (by kernel_rfl) (by kernel_rfl) (by intro _ _ _ h; exact h) (Or.inl ⟨by kernel_rfl, ?hy21⟩) (by assumption) ?rest21
              case hy21 =>
                intro w' hSw
                have hSw : Keeps _ w' := hSw
                clear hSw
                go_simp
                try with_reducible rfl
              change wpAnyH _ _ _ _ _ _ _ (Act.put _ (some 127) _) _
              try simp only [Act.put, List.setIfInBounds_toArray, List.set_cons_zero, List.set_cons_succ]
              refine wpAnyH_take (i := 21) (v := ?vv22) (by rfl) (by kernel_rfl) (by kernel_rfl) (by kernel_rfl) (by intro _ _ _ h; exact h) (Or.inl ⟨by kernel_rfl, ?hy22⟩) (by assumption) ?rest22
              case hy22 =>
                intro w' hSw
                have hSw : Keeps _ w' := hSw
                have hx := keep1 hSw hcell
                clear hSw
                go_simp
                try with_reducible rfl
              change wpAnyH _ _ _ _ _ _ _ (Act.put _ (some 128) _) _
              try simp only [Act.put, List.setIfInBounds_toArray, List.set_cons_zero, List.set_cons_succ]
              refine wpAnyH_take (i := 22) (v := ?vv23) (by rfl) (by kernel_rfl) (by kernel_rfl) (by kernel_rfl) (by intro _ _ _ h; exact h) (Or.inl ⟨by kernel_rfl, ?hy23⟩) (by assumption) ?rest23
              case hy23 =>
                intro w' hSw
                have hSw : Keeps _ w' := hSw
                have hc := str_at' (HPay.out.keeps hSw)
                clear hSw
                go_simp
                try with_reducible rfl
              change wpAnyH _ _ _ _ _ _ _ (Act.put _ (some 129) _) _
              try simp only [Act.put, List.setIfInBounds_toArray, List.set_cons_zero, List.set_cons_succ]
              refine wpAnyH_take (i := 23) (v := ?vv24) (by rfl) (by kernel_rfl) (by kernel_rfl) (by kernel_rfl) (by intro _ _ _ h; exact h) (Or.inl ⟨by kernel_rfl, ?hy24⟩) (by assumption) ?rest24
              case hy24 =>
                intro w' hSw
                have hSw : Keeps _ w' := hSw
                clear hSw
                go_simp
                try with_reducible rfl
              change wpAnyH _ _ _ _ _ _ _ (Act.put _ (some 130) _) _
              try simp only [Act.put, List.setIfInBounds_toArray, List.set_cons_zero, List.set_cons_succ]
              refine wpAnyH_take (i := 24) (v := ?vv25) (by rfl) (by kernel_rfl) (by kernel_rfl) (by kernel_rfl) (by intro _ _ _ h; exact h) (Or.inl ⟨by kernel_rfl, ?hy25⟩) (by assumption) ?rest25
              case hy25 =>
                intro w' hSw
                have hSw : Keeps _ w' := hSw
                clear hSw
                go_simp
                try with_reducible rfl
              change wpAnyH _ _ _ _ _ _ _ (Act.put _ (some 131) _) _
              try simp only [Act.put, List.setIfInBounds_toArray, List.set_cons_zero, List.set_cons_succ]
              refine wpAnyH_done (by kernel_rfl) ?_ _
              refine NoPanic.normal ?_
              go_wp2_with fail
              go_roundw
              case rel => exact ⟨j + 1, by simp, by omega, HKj.out.trans hHeld⟩
              case measure =>
                simp only [intOf]
                omega
            · go_wp2_with fail
              go_ret
              exact ⟨rfl, HK4.out.trans HKj.out⟩
    · go_upto_region 9 with fail
      clear h h'
      have hcA : (cat F).length ≤ (cat F).length := by omega
      have HT := Lib.hid (row_take HZ.out hcA)
      have HB := Lib.hid (back_test HZ.out (c := (cat F).length))
      have hwh : whole F (cat F).length ≤ l.length := by have := whole_le F (cat F).length; have h3 := HZl.out; omega
      have HWE := Lib.hid (fun i (h : i < F.length) => whole_ends F (cat F).length i h)
      have hrow : ∀ w', Keeps w3 w' → Row w' (cutv pa 0 (cat F).length ca) (((cat F).take (cat F).length).map u8v) := fun w' k => by
        have h := (HA.out.keeps k).row.cut (lo := 0) (hi := (cat F).length) (Nat.zero_le _) (by rw [List.length_map]; exact hcA)
        rw [List.drop_zero, Nat.sub_zero, ← List.map_take] at h
        exact h
      have HRow := Lib.hid hrow
      have eh : ∀ w', (Instr.slice 22 (.slice pa (cat F).length ca) none (some (.int .i64 ((cat F).length : Int))) none).run Try.prog w' = .ok (cutv pa 0 (cat F).length ca) w' := fun w' => run_cut_h w' Try.underlying22 s5 pa (cat F).length ca (cat F).length (by omega)
      have hL9 : ((cat F).take (cat F).length).length ≤ 60570 := by have := List.length_take_le (cat F).length (cat F); omega
      have HEB : Hid (∀ i, i < l.length → endAt F i ≤ 60570) := Lib.hid (fun i h => by
        unfold endAt
        have := cat_len (F.take (i + 1)) (fun x hx => HZ.out x (List.mem_of_mem_take hx))
        have h2 := List.length_take_le (i + 1) F
        have h3 := HZl.out
        omega)
      have C57 := Lib.hid (fun w' (k : Keeps w3 w') => row_any (cutv pa 0 (cat F).length ca) ((cat F).take (cat F).length) w' (HRow.out w' k) (by omega))
      generalize rowR ((cat F).take (cat F).length) = rr at *
      obtain ⟨fs, uu, er⟩ := rr
      simp only at HT C57
      clear hrow
      generalize hW : whole F (cat F).length = m at *
      clear hW
      go_wp2_with fail
      go_loopw [9, 10] (fun nv iv wr => ∃ i : Nat, iv = .int .i64 (i : Int) ∧ i ≤ l.length ∧ nv = .int .i64 ((min i m : Nat) : Int) ∧ wr = w3) (fun _ iv _ => l.length - (intOf iv).toNat)
      case atStart => exact ⟨0, rfl, Nat.zero_le _, by simp, rfl⟩
      case round =>
        obtain ⟨i, rfl, hi, rfl, rfl⟩ := hrel
        by_cases hlt : i < l.length
        · have hiF : i < F.length := by have := HZl.out; omega
          obtain ⟨ge, ce', hve, -, -, -⟩ := HE.out.form (by simp [endsL]; omega)
          simp only [Value.slice.injEq] at hve
          obtain ⟨rfl, -, rfl⟩ := hve
          have hce : wr.cell? ⟨ge, i, none⟩ = some (.int .i64 (endAt F i : Nat)) := HE.out.cellAt i _ (by simp [endsL, hlt])
          have heb := HEB.out i hlt
          have hwi := HWE.out i hiF
          generalize endAt F i = ei at *
          by_cases hle : ei ≤ (cat F).length
          · have him := hwi.1 hle
            have hmin : min (i + 1) m = i + 1 := by omega
            have hleI : (ei : Int) ≤ ((cat F).length : Int) := by omega
            clear hwi
            go_wp2_with fail
            go_roundw
            case rel => exact ⟨i + 1, by simp, by omega, by rw [hmin]; simp, trivial⟩
            case measure =>
              simp only [intOf]
              omega
          · have him : m ≤ i := by
              rcases Nat.lt_or_ge i m with h | h
              · exact absurd (hwi.2 h) hle
              · exact h
            have hmin : min (i + 1) m = min i m := by omega
            have hleI : decide ((ei : Int) ≤ ((cat F).length : Int)) = false := by simp; omega
            clear hwi
            go_wp2_with fail
            go_roundw
            case rel => exact ⟨i + 1, by simp, by omega, by rw [hmin], trivial⟩
            case measure =>
              simp only [intOf]
              omega
        · have hmin : min i m = m := by omega
          rw [hmin]
          clear hmin
          go_wp2_with fail
          refine (C57.out _ (Keeps.refl _)).mono ?_
          rintro e w4 ⟨vf, fl, rfl, hfl, hmf, hK4⟩
          obtain ⟨pf, cf, rfl, hcf1, hcf2⟩ := ownsRow_form hfl.own
          have hfm : fl.length = m := by
            have h1 := congrArg List.length HT.out.1
            rw [← hmf] at h1
            simp only [List.length_map, List.length_take] at h1
            have := HZl.out
            omega
          have HFk : Hid (∀ j (h1 : j < fl.length) (h2 : j < l.length) (h3 : j < ks.length), fl[j].1.kind = (ks[j].toNat : Int) ∧ fl[j].1.pay = l[j].2) := Lib.hid (fun j h1 h2 h3 => by
            have h := congrArg (fun z => z[j]?) HT.out.1
            rw [← hmf] at h
            simp only [List.getElem?_map, List.getElem?_take, HZa.out j h3 h2, List.getElem?_eq_getElem h1] at h
            rw [if_pos (by omega)] at h
            simp only [Option.map_some, Option.some.injEq, Prod.mk.injEq] at h
            exact h)
          have HFl := Lib.hid hfl
          have HK4 := Lib.hid (HK3.out.trans hK4)
          have HE4 := Lib.hid (HE.out.keeps hK4)
          have HT2 := Lib.hid HT.out.2
          have HFm := Lib.hid hfm
          rw [hfm] at hcf1 ⊢
          rw [hfm] at HFl
          clear hfl hmf hK4 HT C57 eh hfm
          go_upto_region 15 with fail
          go_cut [101] (fun t wx => t = .bool false ∧ wx = w4)
          case first =>
            as_aux_lemma =>
              rcases HB.out with ⟨h1, h2, h3⟩ | ⟨h1, h2, h3⟩ | ⟨k, h1, h2, h4, h3⟩ | ⟨k, h1, h2, h4, h3⟩
              · have he : er = 0 := by rw [HT2.out, if_pos h3]
                have ec : ((((cat F).length : Nat) : Int) == 0) = true := by rw [beq_iff_eq]; omega
                subst he h1
                clear h2 h3 HB HT2
                go_wp2_with fail
                go_meet
                exact ⟨rfl, rfl⟩
              · have he : er = 2 := by rw [HT2.out, if_neg h3]
                have ec : ((((cat F).length : Nat) : Int) == 0) = false := by rw [beq_eq_false_iff_ne]; omega
                subst he h1
                clear h2 h3 HB HT2
                go_wp2_with fail
                go_meet
                exact ⟨rfl, rfl⟩
              all_goals
                obtain ⟨ge, ce', hve, -, -, -⟩ := HE4.out.form (by simp [endsL]; omega)
                simp only [Value.slice.injEq] at hve
                obtain ⟨rfl, -, rfl⟩ := hve
                have hkl : k < l.length := by omega
                have hce : w4.cell? ⟨ge, k, none⟩ = some (.int .i64 (endAt F k : Nat)) := HE4.out.cellAt k _ (by simp [endsL, hkl])
                have ec : ((((cat F).length : Nat) : Int) == 0) = false := by rw [beq_eq_false_iff_ne]; omega
                have heb := HEB.out k hkl
              · have he : er = 0 := by rw [HT2.out, if_pos h3]
                have e4 : ((endAt F k : Int) == (((cat F).length : Nat) : Int)) = true := by rw [beq_iff_eq]; omega
                clear h3 HB HT2 h4
                subst he h1
                generalize endAt F k = ek at *
                go_wp2_with fail
                go_meet
                exact ⟨rfl, rfl⟩
              · have he : er = 2 := by rw [HT2.out, if_neg h3]
                have e4 : ((endAt F k : Int) == (((cat F).length : Nat) : Int)) = false := by rw [beq_eq_false_iff_ne]; omega
                clear h3 HB HT2 h4
                subst he h1
                generalize endAt F k = ek at *
                go_wp2_with fail
                go_meet
                exact ⟨rfl, rfl⟩
          case rest =>
          obtain ⟨rfl, rfl⟩ := hcut
          clear HB HT2 HEB
          go_wp2_with fail
          go_loopw [14] (fun iv wr => ∃ j : Nat, iv = .int .i64 (j : Int) ∧ j ≤ m ∧ Keeps wc wr) (fun iv _ => m - (intOf iv).toNat)
          case atStart => exact ⟨0, rfl, Nat.zero_le _, Keeps.refl _⟩
          case round =>
            obtain ⟨j, rfl, hj, hKj⟩ := hrel
            have HKj := Lib.hid hKj
            by_cases hlj : j < m
            · have hjl : j < l.length := by omega
              have hjk : j < ks.length := by omega
              have hjf : j < fl.length := by have := HFm.out; omega
              obtain ⟨g, hpf, ⟨-, -, hk2, hk3⟩, hrp⟩ := (HFl.out.keeps hKj).one hjf
              subst hpf
              have hkk := HFk.out j hjf hjl hjk
              rw [hkk.1] at hk2
              rw [hkk.2] at hrp
              obtain ⟨b, off, cap', hv, hc⟩ := row_cells (HR.out.keeps (HK4.out.trans hKj)) (by rw [List.length_map]; omega)
              obtain ⟨b1, off1, cap1', hv1, -, -, hc1'⟩ := (HR1.out.keeps (HK4.out.trans hKj)).bytesAt (by omega)
              rw [List.length_map] at hv
              simp only [Value.slice.injEq] at hv hv1
              obtain ⟨rfl, -, rfl⟩ := hv
              obtain ⟨rfl, -, rfl⟩ := hv1
              have hcell : wr.cell? ⟨b, off + j, none⟩ = some l[j].1 := hc.out j _ (by simp [hjl])
              have hcell1 : wr.cell? ⟨b1, off1 + j, none⟩ = some (.int .u8 (ks[j].toNat : Int)) := hc1'.out j _ (by simp [hjk])
              have hpay : payOk wr l[j] := (HP.out l[j] (List.getElem_mem hjl)).keeps (HK4.out.trans hKj)
              have hkb := ks[j].toNat_lt
              unfold payOk at hpay
              have HPay := Lib.hid hpay
              have HRp := Lib.hid hrp
              clear hkk hrp hpay
              generalize l[j] = y at *
              generalize ks[j] = kd at *
              generalize fl[j] = fy at *
              have hwk : IntKind.i64.wrap (kd.toNat : Int) = (kd.toNat : Int) := IntWalk.i64_in _ (by omega)
              go_upto_region 20 with fail
              refine wp_region_noPanic ?_
              refine wp_region_held_drew (S := fun w' => Keeps (wr) w') (by kernel_rfl) ((Keeps.refl _).drew) (fun _ => ?_)
              have hHeld : Keeps (wr) (wr).drew := (Keeps.refl _).drew
              refine wpAnyH_take (i := 0) (v := ?vv26) (by rfl) (by kernel_rfl) (by kernel_rfl) (by kernel_rfl) (by intro _ _ _ h; exact h) (Or.inl ⟨by kernel_rfl, ?hy26⟩) (by assumption) ?rest26
              case hy26 =>
                intro w' hSw
                have hSw : Keeps _ w' := hSw
                clear hSw
                go_simp
                try with_reducible rfl
              change wpAnyH _ _ _ _ _ _ _ (Act.put _ (some 107) _) _
              try simp only [Act.put, List.setIfInBounds_toArray, List.set_cons_zero, List.set_cons_succ]
              refine wpAnyH_take (i := 1) (v := ?vv27) (by rfl) (by kernel_rfl) (by kernel_rfl) (by kernel_rfl) (by intro _ _ _ h; exact h) (Or.inl ⟨by kernel_rfl, ?hy27⟩) (by assumption) ?rest27
              case hy27 =>
                intro w' hSw
                have hSw : Keeps _ w' := hSw
                clear hSw
                go_simp
                try with_reducible rfl
              change wpAnyH _ _ _ _ _ _ _ (Act.put _ (some 108) _) _
              try simp only [Act.put, List.setIfInBounds_toArray, List.set_cons_zero, List.set_cons_succ]
              refine wpAnyH_take (i := 2) (v := ?vv28) (by rfl) (by kernel_rfl) (by kernel_rfl) (by kernel_rfl) (by intro _ _ _ h; exact h) (Or.inl ⟨by kernel_rfl, ?hy28⟩) (by assumption) ?rest28
              case hy28 =>
                intro w' hSw
                have hSw : Keeps _ w' := hSw
                clear hSw
                go_simp
                try with_reducible rfl
              change wpAnyH _ _ _ _ _ _ _ (Act.put _ (some 109) _) _
              try simp only [Act.put, List.setIfInBounds_toArray, List.set_cons_zero, List.set_cons_succ]
              refine wpAnyH_take (i := 3) (v := ?vv29) (by rfl) (by kernel_rfl) (by kernel_rfl) (by kernel_rfl) (by intro _ _ _ h; exact h) (Or.inl ⟨by kernel_rfl, ?hy29⟩) (by assumption) ?rest29
              case hy29 =>
                intro w' hSw
                have hSw : Keeps _ w' := hSw
                clear hSw
                go_simp
                try with_reducible rfl
              change wpAnyH _ _ _ _ _ _ _ (Act.put _ (some 110) _) _
              try simp only [Act.put, List.setIfInBounds_toArray, List.set_cons_zero, List.set_cons_succ]
              refine wpAnyH_take (i := 4) (v := ?vv30) (by rfl) (by kernel_rfl) (by kernel_rfl) (by kernel_rfl) (by intro _ _ _ h; exact h) (Or.inl ⟨by kernel_rfl, ?hy30⟩) (by assumption) ?rest30
              case hy30 =>
                intro w' hSw
                have hSw : Keeps _ w' := hSw
                have hx := keep1 hSw hk2
                clear hSw
                go_simp
                try with_reducible rfl
              change wpAnyH _ _ _ _ _ _ _ (Act.put _ (some 111) _) _
              try simp only [Act.put, List.setIfInBounds_toArray, List.set_cons_zero, List.set_cons_succ]
              refine wpAnyH_take (i := 5) (v := ?vv31) (by rfl) (by kernel_rfl) (by kernel_rfl) (by kernel_rfl) (by intro _ _ _ h; exact h) (Or.inl ⟨by kernel_rfl, ?hy31⟩) (by assumption) ?rest31
              case hy31 =>
                intro w' hSw
                have hSw : Keeps _ w' := hSw
                clear hSw
                go_simp
                try with_reducible rfl
              change wpAnyH _ _ _ _ _ _ _ (Act.put _ (some 112) _) _
              try simp only [Act.put, List.setIfInBounds_toArray, List.set_cons_zero, List.set_cons_succ]
              refine wpAnyH_take (i := 6) (v := ?vv32) (by rfl) (by kernel_rfl) (by kernel_rfl) (by kernel_rfl) (by intro _ _ _ h; exact h) (Or.inl ⟨by kernel_rfl, ?hy32⟩) (by assumption) ?rest32
              case hy32 =>
                intro w' hSw
                have hSw : Keeps _ w' := hSw
                clear hSw
                go_simp
                try with_reducible rfl
              change wpAnyH _ _ _ _ _ _ _ (Act.put _ (some 113) _) _
              try simp only [Act.put, List.setIfInBounds_toArray, List.set_cons_zero, List.set_cons_succ]
              refine wpAnyH_take (i := 7) (v := ?vv33) (by rfl) (by kernel_rfl) (by kernel_rfl) (by kernel_rfl) (by intro _ _ _ h; exact h) (Or.inl ⟨by kernel_rfl, ?hy33⟩) (by assumption) ?rest33
              case hy33 =>
                intro w' hSw
                have hSw : Keeps _ w' := hSw
                clear hSw
                go_simp
                try with_reducible rfl
              change wpAnyH _ _ _ _ _ _ _ (Act.put _ (some 114) _) _
              try simp only [Act.put, List.setIfInBounds_toArray, List.set_cons_zero, List.set_cons_succ]
              refine wpAnyH_take (i := 8) (v := ?vv34) (by rfl) (by kernel_rfl) (by kernel_rfl) (by kernel_rfl) (by intro _ _ _ h; exact h) (Or.inl ⟨by kernel_rfl, ?hy34⟩) (by assumption) ?rest34
              case hy34 =>
                intro w' hSw
                have hSw : Keeps _ w' := hSw
                have hx := keep1 hSw hcell1
                clear hSw
                go_simp
                try with_reducible rfl
              change wpAnyH _ _ _ _ _ _ _ (Act.put _ (some 115) _) _
              try simp only [Act.put, List.setIfInBounds_toArray, List.set_cons_zero, List.set_cons_succ]
              refine wpAnyH_take (i := 9) (v := ?vv35) (by rfl) (by kernel_rfl) (by kernel_rfl) (by kernel_rfl) (by intro _ _ _ h; exact h) (Or.inl ⟨by kernel_rfl, ?hy35⟩) (by assumption) ?rest35
              case hy35 =>
                intro w' hSw
                have hSw : Keeps _ w' := hSw
                clear hSw
                go_simp
                try with_reducible rfl
              change wpAnyH _ _ _ _ _ _ _ (Act.put _ (some 116) _) _
              try simp only [Act.put, List.setIfInBounds_toArray, List.set_cons_zero, List.set_cons_succ]
              refine wpAnyH_take (i := 10) (v := ?vv36) (by rfl) (by kernel_rfl) (by kernel_rfl) (by kernel_rfl) (by intro _ _ _ h; exact h) (Or.inl ⟨by kernel_rfl, ?hy36⟩) (by assumption) ?rest36
              case hy36 =>
                intro w' hSw
                have hSw : Keeps _ w' := hSw
                clear hSw
                go_simp
                try with_reducible rfl
              change wpAnyH _ _ _ _ _ _ _ (Act.put _ (some 117) _) _
              try simp only [Act.put, List.setIfInBounds_toArray, List.set_cons_zero, List.set_cons_succ]
              refine wpAnyH_take (i := 11) (v := ?vv37) (by rfl) (by kernel_rfl) (by kernel_rfl) (by kernel_rfl) (by intro _ _ _ h; exact h) (Or.inl ⟨by kernel_rfl, ?hy37⟩) (by assumption) ?rest37
              case hy37 =>
                intro w' hSw
                have hSw : Keeps _ w' := hSw
                clear hSw
                go_simp
                try with_reducible rfl
              change wpAnyH _ _ _ _ _ _ _ (Act.put _ (some 118) _) _
              try simp only [Act.put, List.setIfInBounds_toArray, List.set_cons_zero, List.set_cons_succ]
              refine wpAnyH_take (i := 12) (v := ?vv38) (by rfl) (by kernel_rfl) (by kernel_rfl) (by kernel_rfl) (by intro _ _ _ h; exact h) (Or.inl ⟨by kernel_rfl, ?hy38⟩) (by assumption) ?rest38
              case hy38 =>
                intro w' hSw
                have hSw : Keeps _ w' := hSw
                clear hSw
                go_simp
                try with_reducible rfl
              change wpAnyH _ _ _ _ _ _ _ (Act.put _ (some 119) _) _
              try simp only [Act.put, List.setIfInBounds_toArray, List.set_cons_zero, List.set_cons_succ]
              refine wpAnyH_take (i := 13) (v := ?vv39) (by rfl) (by kernel_rfl) (by kernel_rfl) (by kernel_rfl) (by intro _ _ _ h; exact h) (Or.inl ⟨by kernel_rfl, ?hy39⟩) (by assumption) ?rest39
              case hy39 =>
                intro w' hSw
                have hSw : Keeps _ w' := hSw
                clear hSw
                go_simp
                try with_reducible rfl
              change wpAnyH _ _ _ _ _ _ _ (Act.put _ (some 120) _) _
              try simp only [Act.put, List.setIfInBounds_toArray, List.set_cons_zero, List.set_cons_succ]
              refine wpAnyH_take (i := 14) (v := ?vv40) (by rfl) (by kernel_rfl) (by kernel_rfl) (by kernel_rfl) (by intro _ _ _ h; exact h) (Or.inl ⟨by kernel_rfl, ?hy40⟩) (by assumption) ?rest40
              case hy40 =>
                intro w' hSw
                have hSw : Keeps _ w' := hSw
                clear hSw
                go_simp
                try with_reducible rfl
              change wpAnyH _ _ _ _ _ _ _ (Act.put _ (some 121) _) _
              try simp only [Act.put, List.setIfInBounds_toArray, List.set_cons_zero, List.set_cons_succ]
              refine wpAnyH_take (i := 15) (v := ?vv41) (by rfl) (by kernel_rfl) (by kernel_rfl) (by kernel_rfl) (by intro _ _ _ h; exact h) (Or.inl ⟨by kernel_rfl, ?hy41⟩) (by assumption) ?rest41
              case hy41 =>
                intro w' hSw
                have hSw : Keeps _ w' := hSw
                clear hSw
                go_simp
                try with_reducible rfl
              change wpAnyH _ _ _ _ _ _ _ (Act.put _ (some 122) _) _
              try simp only [Act.put, List.setIfInBounds_toArray, List.set_cons_zero, List.set_cons_succ]
              refine wpAnyH_take (i := 16) (v := ?vv42) (by rfl) (by kernel_rfl) (by kernel_rfl) (by kernel_rfl) (by intro _ _ _ h; exact h) (Or.inl ⟨by kernel_rfl, ?hy42⟩) (by assumption) ?rest42
              case hy42 =>
                intro w' hSw
                have hSw : Keeps _ w' := hSw
                have hx := keep1 hSw hk3
                clear hSw
                go_simp
                try with_reducible rfl
              change wpAnyH _ _ _ _ _ _ _ (Act.put _ (some 123) _) _
              try simp only [Act.put, List.setIfInBounds_toArray, List.set_cons_zero, List.set_cons_succ]
              refine wpAnyH_take (i := 17) (v := ?vv43) (by rfl) (by kernel_rfl) (by kernel_rfl) (by kernel_rfl) (by intro _ _ _ h; exact h) (Or.inl ⟨by kernel_rfl, ?hy43⟩) (by assumption) ?rest43
              case hy43 =>
                intro w' hSw
                have hSw : Keeps _ w' := hSw
                have hc := str_at' (HRp.out.keeps hSw)
                clear hSw
                go_simp
                try with_reducible rfl
              change wpAnyH _ _ _ _ _ _ _ (Act.put _ (some 124) _) _
              try simp only [Act.put, List.setIfInBounds_toArray, List.set_cons_zero, List.set_cons_succ]
              refine wpAnyH_take (i := 18) (v := ?vv44) (by rfl) (by kernel_rfl) (by kernel_rfl) (by kernel_rfl) (by intro _ _ _ h; exact h) (Or.inl ⟨by kernel_rfl, ?hy44⟩) (by assumption) ?rest44
              case hy44 =>
                intro w' hSw
                have hSw : Keeps _ w' := hSw
                clear hSw
                go_simp
                try with_reducible rfl
              change wpAnyH _ _ _ _ _ _ _ (Act.put _ (some 125) _) _
              try simp only [Act.put, List.setIfInBounds_toArray, List.set_cons_zero, List.set_cons_succ]
              refine wpAnyH_take (i := 19) (v := ?vv45) (by rfl) (by kernel_rfl) (by kernel_rfl) (by kernel_rfl) (by intro _ _ _ h; exact h) (Or.inl ⟨by kernel_rfl, ?hy45⟩) (by assumption) ?rest45
              case hy45 =>
                intro w' hSw
                have hSw : Keeps _ w' := hSw
                clear hSw
                go_simp
                try with_reducible rfl
              change wpAnyH _ _ _ _ _ _ _ (Act.put _ (some 126) _) _
              try simp only [Act.put, List.setIfInBounds_toArray, List.set_cons_zero, List.set_cons_succ]
              refine wpAnyH_take (i := 20) (v := ?vv46) (by rfl) (by kernel_rfl) (by kernel_rfl) (by kernel_rfl) (by intro _ _ _ h; exact h) (Or.inl ⟨by kernel_rfl, ?hy46⟩) (by assumption) ?rest46
              case hy46 =>
                intro w' hSw
                have hSw : Keeps _ w' := hSw
                clear hSw
                go_simp
                try with_reducible rfl
              change wpAnyH _ _ _ _ _ _ _ (Act.put _ (some 127) _) _
              try simp only [Act.put, List.setIfInBounds_toArray, List.set_cons_zero, List.set_cons_succ]
              refine wpAnyH_take (i := 21) (v := ?vv47) (by rfl) (by kernel_rfl) (by kernel_rfl) (by kernel_rfl) (by intro _ _ _ h; exact h) (Or.inl ⟨by kernel_rfl, ?hy47⟩) (by assumption) ?rest47
              case hy47 =>
                intro w' hSw
                have hSw : Keeps _ w' := hSw
                have hx := keep1 hSw hcell
                clear hSw
                go_simp
                try with_reducible rfl
              change wpAnyH _ _ _ _ _ _ _ (Act.put _ (some 128) _) _
              try simp only [Act.put, List.setIfInBounds_toArray, List.set_cons_zero, List.set_cons_succ]
              refine wpAnyH_take (i := 22) (v := ?vv48) (by rfl) (by kernel_rfl) (by kernel_rfl) (by kernel_rfl) (by intro _ _ _ h; exact h) (Or.inl ⟨by kernel_rfl, ?hy48⟩) (by assumption) ?rest48
              case hy48 =>
                intro w' hSw
                have hSw : Keeps _ w' := hSw
                have hc := str_at' (HPay.out.keeps hSw)
                clear hSw
                go_simp
                try with_reducible rfl
              change wpAnyH _ _ _ _ _ _ _ (Act.put _ (some 129) _) _
              try simp only [Act.put, List.setIfInBounds_toArray, List.set_cons_zero, List.set_cons_succ]
              refine wpAnyH_take (i := 23) (v := ?vv49) (by rfl) (by kernel_rfl) (by kernel_rfl) (by kernel_rfl) (by intro _ _ _ h; exact h) (Or.inl ⟨by kernel_rfl, ?hy49⟩) (by assumption) ?rest49
              case hy49 =>
                intro w' hSw
                have hSw : Keeps _ w' := hSw
                clear hSw
                go_simp
                try with_reducible rfl
              change wpAnyH _ _ _ _ _ _ _ (Act.put _ (some 130) _) _
              try simp only [Act.put, List.setIfInBounds_toArray, List.set_cons_zero, List.set_cons_succ]
              refine wpAnyH_take (i := 24) (v := ?vv50) (by rfl) (by kernel_rfl) (by kernel_rfl) (by kernel_rfl) (by intro _ _ _ h; exact h) (Or.inl ⟨by kernel_rfl, ?hy50⟩) (by assumption) ?rest50
              case hy50 =>
                intro w' hSw
                have hSw : Keeps _ w' := hSw
                clear hSw
                go_simp
                try with_reducible rfl
              change wpAnyH _ _ _ _ _ _ _ (Act.put _ (some 131) _) _
              try simp only [Act.put, List.setIfInBounds_toArray, List.set_cons_zero, List.set_cons_succ]
              refine wpAnyH_done (by kernel_rfl) ?_ _
              refine NoPanic.normal ?_
              go_wp2_with fail
              go_roundw
              case rel => exact ⟨j + 1, by simp, by omega, HKj.out.trans hHeld⟩
              case measure =>
                simp only [intOf]
                omega
            · go_wp2_with fail
              go_ret
              exact ⟨rfl, HK4.out.trans HKj.out⟩
  · obtain ⟨c, rfl⟩ := Int.eq_ofNat_of_zero_le (show 0 ≤ cut by omega)
    have hd1 : decide ((c : Int) < 0) = false := by simp
    have hd2 : decide (((cat F).length : Int) < (c : Int)) = false := by simp; omega
    have hcA' : c ≤ (cat F).length := by omega
    clear hcut
    go_upto_region 9 with fail
    have hcA : c ≤ (cat F).length := by omega
    have HT := Lib.hid (row_take HZ.out hcA)
    have HB := Lib.hid (back_test HZ.out (c := c))
    have hwh : whole F c ≤ l.length := by have := whole_le F c; have h3 := HZl.out; omega
    have HWE := Lib.hid (fun i (h : i < F.length) => whole_ends F c i h)
    have hrow : ∀ w', Keeps w3 w' → Row w' (cutv pa 0 c ca) (((cat F).take c).map u8v) := fun w' k => by
      have h := (HA.out.keeps k).row.cut (lo := 0) (hi := c) (Nat.zero_le _) (by rw [List.length_map]; exact hcA)
      rw [List.drop_zero, Nat.sub_zero, ← List.map_take] at h
      exact h
    have HRow := Lib.hid hrow
    have eh : ∀ w', (Instr.slice 22 (.slice pa (cat F).length ca) none (some (.int .i64 (c : Int))) none).run Try.prog w' = .ok (cutv pa 0 c ca) w' := fun w' => run_cut_h w' Try.underlying22 s5 pa (cat F).length ca c (by omega)
    have hL9 : ((cat F).take c).length ≤ 60570 := by have := List.length_take_le c (cat F); omega
    have HEB : Hid (∀ i, i < l.length → endAt F i ≤ 60570) := Lib.hid (fun i h => by
      unfold endAt
      have := cat_len (F.take (i + 1)) (fun x hx => HZ.out x (List.mem_of_mem_take hx))
      have h2 := List.length_take_le (i + 1) F
      have h3 := HZl.out
      omega)
    have C57 := Lib.hid (fun w' (k : Keeps w3 w') => row_any (cutv pa 0 c ca) ((cat F).take c) w' (HRow.out w' k) (by omega))
    generalize rowR ((cat F).take c) = rr at *
    obtain ⟨fs, uu, er⟩ := rr
    simp only at HT C57
    clear hrow
    generalize hW : whole F c = m at *
    clear hW
    go_wp2_with fail
    go_loopw [9, 10] (fun nv iv wr => ∃ i : Nat, iv = .int .i64 (i : Int) ∧ i ≤ l.length ∧ nv = .int .i64 ((min i m : Nat) : Int) ∧ wr = w3) (fun _ iv _ => l.length - (intOf iv).toNat)
    case atStart => exact ⟨0, rfl, Nat.zero_le _, by simp, rfl⟩
    case round =>
      obtain ⟨i, rfl, hi, rfl, rfl⟩ := hrel
      by_cases hlt : i < l.length
      · have hiF : i < F.length := by have := HZl.out; omega
        obtain ⟨ge, ce', hve, -, -, -⟩ := HE.out.form (by simp [endsL]; omega)
        simp only [Value.slice.injEq] at hve
        obtain ⟨rfl, -, rfl⟩ := hve
        have hce : wr.cell? ⟨ge, i, none⟩ = some (.int .i64 (endAt F i : Nat)) := HE.out.cellAt i _ (by simp [endsL, hlt])
        have heb := HEB.out i hlt
        have hwi := HWE.out i hiF
        generalize endAt F i = ei at *
        by_cases hle : ei ≤ c
        · have him := hwi.1 hle
          have hmin : min (i + 1) m = i + 1 := by omega
          have hleI : (ei : Int) ≤ (c : Int) := by omega
          clear hwi
          go_wp2_with fail
          go_roundw
          case rel => exact ⟨i + 1, by simp, by omega, by rw [hmin]; simp, trivial⟩
          case measure =>
            simp only [intOf]
            omega
        · have him : m ≤ i := by
            rcases Nat.lt_or_ge i m with h | h
            · exact absurd (hwi.2 h) hle
            · exact h
          have hmin : min (i + 1) m = min i m := by omega
          have hleI : decide ((ei : Int) ≤ (c : Int)) = false := by simp; omega
          clear hwi
          go_wp2_with fail
          go_roundw
          case rel => exact ⟨i + 1, by simp, by omega, by rw [hmin], trivial⟩
          case measure =>
            simp only [intOf]
            omega
      · have hmin : min i m = m := by omega
        rw [hmin]
        clear hmin
        go_wp2_with fail
        refine (C57.out _ (Keeps.refl _)).mono ?_
        rintro e w4 ⟨vf, fl, rfl, hfl, hmf, hK4⟩
        obtain ⟨pf, cf, rfl, hcf1, hcf2⟩ := ownsRow_form hfl.own
        have hfm : fl.length = m := by
          have h1 := congrArg List.length HT.out.1
          rw [← hmf] at h1
          simp only [List.length_map, List.length_take] at h1
          have := HZl.out
          omega
        have HFk : Hid (∀ j (h1 : j < fl.length) (h2 : j < l.length) (h3 : j < ks.length), fl[j].1.kind = (ks[j].toNat : Int) ∧ fl[j].1.pay = l[j].2) := Lib.hid (fun j h1 h2 h3 => by
          have h := congrArg (fun z => z[j]?) HT.out.1
          rw [← hmf] at h
          simp only [List.getElem?_map, List.getElem?_take, HZa.out j h3 h2, List.getElem?_eq_getElem h1] at h
          rw [if_pos (by omega)] at h
          simp only [Option.map_some, Option.some.injEq, Prod.mk.injEq] at h
          exact h)
        have HFl := Lib.hid hfl
        have HK4 := Lib.hid (HK3.out.trans hK4)
        have HE4 := Lib.hid (HE.out.keeps hK4)
        have HT2 := Lib.hid HT.out.2
        have HFm := Lib.hid hfm
        rw [hfm] at hcf1 ⊢
        rw [hfm] at HFl
        clear hfl hmf hK4 HT C57 eh hfm
        go_upto_region 15 with fail
        go_cut [101] (fun t wx => t = .bool false ∧ wx = w4)
        case first =>
          as_aux_lemma =>
            rcases HB.out with ⟨h1, h2, h3⟩ | ⟨h1, h2, h3⟩ | ⟨k, h1, h2, h4, h3⟩ | ⟨k, h1, h2, h4, h3⟩
            · have he : er = 0 := by rw [HT2.out, if_pos h3]
              have ec : (((c : Nat) : Int) == 0) = true := by rw [beq_iff_eq]; omega
              subst he h1
              clear h2 h3 HB HT2
              go_wp2_with fail
              go_meet
              exact ⟨rfl, rfl⟩
            · have he : er = 2 := by rw [HT2.out, if_neg h3]
              have ec : (((c : Nat) : Int) == 0) = false := by rw [beq_eq_false_iff_ne]; omega
              subst he h1
              clear h2 h3 HB HT2
              go_wp2_with fail
              go_meet
              exact ⟨rfl, rfl⟩
            all_goals
              obtain ⟨ge, ce', hve, -, -, -⟩ := HE4.out.form (by simp [endsL]; omega)
              simp only [Value.slice.injEq] at hve
              obtain ⟨rfl, -, rfl⟩ := hve
              have hkl : k < l.length := by omega
              have hce : w4.cell? ⟨ge, k, none⟩ = some (.int .i64 (endAt F k : Nat)) := HE4.out.cellAt k _ (by simp [endsL, hkl])
              have ec : (((c : Nat) : Int) == 0) = false := by rw [beq_eq_false_iff_ne]; omega
              have heb := HEB.out k hkl
            · have he : er = 0 := by rw [HT2.out, if_pos h3]
              have e4 : ((endAt F k : Int) == ((c : Nat) : Int)) = true := by rw [beq_iff_eq]; omega
              clear h3 HB HT2 h4
              subst he h1
              generalize endAt F k = ek at *
              go_wp2_with fail
              go_meet
              exact ⟨rfl, rfl⟩
            · have he : er = 2 := by rw [HT2.out, if_neg h3]
              have e4 : ((endAt F k : Int) == ((c : Nat) : Int)) = false := by rw [beq_eq_false_iff_ne]; omega
              clear h3 HB HT2 h4
              subst he h1
              generalize endAt F k = ek at *
              go_wp2_with fail
              go_meet
              exact ⟨rfl, rfl⟩
        case rest =>
        obtain ⟨rfl, rfl⟩ := hcut
        clear HB HT2 HEB
        go_wp2_with fail
        go_loopw [14] (fun iv wr => ∃ j : Nat, iv = .int .i64 (j : Int) ∧ j ≤ m ∧ Keeps wc wr) (fun iv _ => m - (intOf iv).toNat)
        case atStart => exact ⟨0, rfl, Nat.zero_le _, Keeps.refl _⟩
        case round =>
          obtain ⟨j, rfl, hj, hKj⟩ := hrel
          have HKj := Lib.hid hKj
          by_cases hlj : j < m
          · have hjl : j < l.length := by omega
            have hjk : j < ks.length := by omega
            have hjf : j < fl.length := by have := HFm.out; omega
            obtain ⟨g, hpf, ⟨-, -, hk2, hk3⟩, hrp⟩ := (HFl.out.keeps hKj).one hjf
            subst hpf
            have hkk := HFk.out j hjf hjl hjk
            rw [hkk.1] at hk2
            rw [hkk.2] at hrp
            obtain ⟨b, off, cap', hv, hc⟩ := row_cells (HR.out.keeps (HK4.out.trans hKj)) (by rw [List.length_map]; omega)
            obtain ⟨b1, off1, cap1', hv1, -, -, hc1'⟩ := (HR1.out.keeps (HK4.out.trans hKj)).bytesAt (by omega)
            rw [List.length_map] at hv
            simp only [Value.slice.injEq] at hv hv1
            obtain ⟨rfl, -, rfl⟩ := hv
            obtain ⟨rfl, -, rfl⟩ := hv1
            have hcell : wr.cell? ⟨b, off + j, none⟩ = some l[j].1 := hc.out j _ (by simp [hjl])
            have hcell1 : wr.cell? ⟨b1, off1 + j, none⟩ = some (.int .u8 (ks[j].toNat : Int)) := hc1'.out j _ (by simp [hjk])
            have hpay : payOk wr l[j] := (HP.out l[j] (List.getElem_mem hjl)).keeps (HK4.out.trans hKj)
            have hkb := ks[j].toNat_lt
            unfold payOk at hpay
            have HPay := Lib.hid hpay
            have HRp := Lib.hid hrp
            clear hkk hrp hpay
            generalize l[j] = y at *
            generalize ks[j] = kd at *
            generalize fl[j] = fy at *
            have hwk : IntKind.i64.wrap (kd.toNat : Int) = (kd.toNat : Int) := IntWalk.i64_in _ (by omega)
            go_upto_region 20 with fail
            refine wp_region_noPanic ?_
            refine wp_region_held_drew (S := fun w' => Keeps (wr) w') (by kernel_rfl) ((Keeps.refl _).drew) (fun _ => ?_)
            have hHeld : Keeps (wr) (wr).drew := (Keeps.refl _).drew
            refine wpAnyH_take (i := 0) (v := ?vv51) (by rfl) (by kernel_rfl) (by kernel_rfl) (by kernel_rfl) (by intro _ _ _ h; exact h) (Or.inl ⟨by kernel_rfl, ?hy51⟩) (by assumption) ?rest51
            case hy51 =>
              intro w' hSw
              have hSw : Keeps _ w' := hSw
              clear hSw
              go_simp
              try with_reducible rfl
            change wpAnyH _ _ _ _ _ _ _ (Act.put _ (some 107) _) _
            try simp only [Act.put, List.setIfInBounds_toArray, List.set_cons_zero, List.set_cons_succ]
            refine wpAnyH_take (i := 1) (v := ?vv52) (by rfl) (by kernel_rfl) (by kernel_rfl) (by kernel_rfl) (by intro _ _ _ h; exact h) (Or.inl ⟨by kernel_rfl, ?hy52⟩) (by assumption) ?rest52
            case hy52 =>
              intro w' hSw
              have hSw : Keeps _ w' := hSw
              clear hSw
              go_simp
              try with_reducible rfl
            change wpAnyH _ _ _ _ _ _ _ (Act.put _ (some 108) _) _
            try simp only [Act.put, List.setIfInBounds_toArray, List.set_cons_zero, List.set_cons_succ]
            refine wpAnyH_take (i := 2) (v := ?vv53) (by rfl) (by kernel_rfl) (by kernel_rfl) (by kernel_rfl) (by intro _ _ _ h; exact h) (Or.inl ⟨by kernel_rfl, ?hy53⟩) (by assumption) ?rest53
            case hy53 =>
              intro w' hSw
              have hSw : Keeps _ w' := hSw
              clear hSw
              go_simp
              try with_reducible rfl
            change wpAnyH _ _ _ _ _ _ _ (Act.put _ (some 109) _) _
            try simp only [Act.put, List.setIfInBounds_toArray, List.set_cons_zero, List.set_cons_succ]
            refine wpAnyH_take (i := 3) (v := ?vv54) (by rfl) (by kernel_rfl) (by kernel_rfl) (by kernel_rfl) (by intro _ _ _ h; exact h) (Or.inl ⟨by kernel_rfl, ?hy54⟩) (by assumption) ?rest54
            case hy54 =>
              intro w' hSw
              have hSw : Keeps _ w' := hSw
              clear hSw
              go_simp
              try with_reducible rfl
            change wpAnyH _ _ _ _ _ _ _ (Act.put _ (some 110) _) _
            try simp only [Act.put, List.setIfInBounds_toArray, List.set_cons_zero, List.set_cons_succ]
            refine wpAnyH_take (i := 4) (v := ?vv55) (by rfl) (by kernel_rfl) (by kernel_rfl) (by kernel_rfl) (by intro _ _ _ h; exact h) (Or.inl ⟨by kernel_rfl, ?hy55⟩) (by assumption) ?rest55
            case hy55 =>
              intro w' hSw
              have hSw : Keeps _ w' := hSw
              have hx := keep1 hSw hk2
              clear hSw
              go_simp
              try with_reducible rfl
            change wpAnyH _ _ _ _ _ _ _ (Act.put _ (some 111) _) _
            try simp only [Act.put, List.setIfInBounds_toArray, List.set_cons_zero, List.set_cons_succ]
            refine wpAnyH_take (i := 5) (v := ?vv56) (by rfl) (by kernel_rfl) (by kernel_rfl) (by kernel_rfl) (by intro _ _ _ h; exact h) (Or.inl ⟨by kernel_rfl, ?hy56⟩) (by assumption) ?rest56
            case hy56 =>
              intro w' hSw
              have hSw : Keeps _ w' := hSw
              clear hSw
              go_simp
              try with_reducible rfl
            change wpAnyH _ _ _ _ _ _ _ (Act.put _ (some 112) _) _
            try simp only [Act.put, List.setIfInBounds_toArray, List.set_cons_zero, List.set_cons_succ]
            refine wpAnyH_take (i := 6) (v := ?vv57) (by rfl) (by kernel_rfl) (by kernel_rfl) (by kernel_rfl) (by intro _ _ _ h; exact h) (Or.inl ⟨by kernel_rfl, ?hy57⟩) (by assumption) ?rest57
            case hy57 =>
              intro w' hSw
              have hSw : Keeps _ w' := hSw
              clear hSw
              go_simp
              try with_reducible rfl
            change wpAnyH _ _ _ _ _ _ _ (Act.put _ (some 113) _) _
            try simp only [Act.put, List.setIfInBounds_toArray, List.set_cons_zero, List.set_cons_succ]
            refine wpAnyH_take (i := 7) (v := ?vv58) (by rfl) (by kernel_rfl) (by kernel_rfl) (by kernel_rfl) (by intro _ _ _ h; exact h) (Or.inl ⟨by kernel_rfl, ?hy58⟩) (by assumption) ?rest58
            case hy58 =>
              intro w' hSw
              have hSw : Keeps _ w' := hSw
              clear hSw
              go_simp
              try with_reducible rfl
            change wpAnyH _ _ _ _ _ _ _ (Act.put _ (some 114) _) _
            try simp only [Act.put, List.setIfInBounds_toArray, List.set_cons_zero, List.set_cons_succ]
            refine wpAnyH_take (i := 8) (v := ?vv59) (by rfl) (by kernel_rfl) (by kernel_rfl) (by kernel_rfl) (by intro _ _ _ h; exact h) (Or.inl ⟨by kernel_rfl, ?hy59⟩) (by assumption) ?rest59
            case hy59 =>
              intro w' hSw
              have hSw : Keeps _ w' := hSw
              have hx := keep1 hSw hcell1
              clear hSw
              go_simp
              try with_reducible rfl
            change wpAnyH _ _ _ _ _ _ _ (Act.put _ (some 115) _) _
            try simp only [Act.put, List.setIfInBounds_toArray, List.set_cons_zero, List.set_cons_succ]
            refine wpAnyH_take (i := 9) (v := ?vv60) (by rfl) (by kernel_rfl) (by kernel_rfl) (by kernel_rfl) (by intro _ _ _ h; exact h) (Or.inl ⟨by kernel_rfl, ?hy60⟩) (by assumption) ?rest60
            case hy60 =>
              intro w' hSw
              have hSw : Keeps _ w' := hSw
              clear hSw
              go_simp
              try with_reducible rfl
            change wpAnyH _ _ _ _ _ _ _ (Act.put _ (some 116) _) _
            try simp only [Act.put, List.setIfInBounds_toArray, List.set_cons_zero, List.set_cons_succ]
            refine wpAnyH_take (i := 10) (v := ?vv61) (by rfl) (by kernel_rfl) (by kernel_rfl) (by kernel_rfl) (by intro _ _ _ h; exact h) (Or.inl ⟨by kernel_rfl, ?hy61⟩) (by assumption) ?rest61
            case hy61 =>
              intro w' hSw
              have hSw : Keeps _ w' := hSw
              clear hSw
              go_simp
              try with_reducible rfl
            change wpAnyH _ _ _ _ _ _ _ (Act.put _ (some 117) _) _
            try simp only [Act.put, List.setIfInBounds_toArray, List.set_cons_zero, List.set_cons_succ]
            refine wpAnyH_take (i := 11) (v := ?vv62) (by rfl) (by kernel_rfl) (by kernel_rfl) (by kernel_rfl) (by intro _ _ _ h; exact h) (Or.inl ⟨by kernel_rfl, ?hy62⟩) (by assumption) ?rest62
            case hy62 =>
              intro w' hSw
              have hSw : Keeps _ w' := hSw
              clear hSw
              go_simp
              try with_reducible rfl
            change wpAnyH _ _ _ _ _ _ _ (Act.put _ (some 118) _) _
            try simp only [Act.put, List.setIfInBounds_toArray, List.set_cons_zero, List.set_cons_succ]
            refine wpAnyH_take (i := 12) (v := ?vv63) (by rfl) (by kernel_rfl) (by kernel_rfl) (by kernel_rfl) (by intro _ _ _ h; exact h) (Or.inl ⟨by kernel_rfl, ?hy63⟩) (by assumption) ?rest63
            case hy63 =>
              intro w' hSw
              have hSw : Keeps _ w' := hSw
              clear hSw
              go_simp
              try with_reducible rfl
            change wpAnyH _ _ _ _ _ _ _ (Act.put _ (some 119) _) _
            try simp only [Act.put, List.setIfInBounds_toArray, List.set_cons_zero, List.set_cons_succ]
            refine wpAnyH_take (i := 13) (v := ?vv64) (by rfl) (by kernel_rfl) (by kernel_rfl) (by kernel_rfl) (by intro _ _ _ h; exact h) (Or.inl ⟨by kernel_rfl, ?hy64⟩) (by assumption) ?rest64
            case hy64 =>
              intro w' hSw
              have hSw : Keeps _ w' := hSw
              clear hSw
              go_simp
              try with_reducible rfl
            change wpAnyH _ _ _ _ _ _ _ (Act.put _ (some 120) _) _
            try simp only [Act.put, List.setIfInBounds_toArray, List.set_cons_zero, List.set_cons_succ]
            refine wpAnyH_take (i := 14) (v := ?vv65) (by rfl) (by kernel_rfl) (by kernel_rfl) (by kernel_rfl) (by intro _ _ _ h; exact h) (Or.inl ⟨by kernel_rfl, ?hy65⟩) (by assumption) ?rest65
            case hy65 =>
              intro w' hSw
              have hSw : Keeps _ w' := hSw
              clear hSw
              go_simp
              try with_reducible rfl
            change wpAnyH _ _ _ _ _ _ _ (Act.put _ (some 121) _) _
            try simp only [Act.put, List.setIfInBounds_toArray, List.set_cons_zero, List.set_cons_succ]
            refine wpAnyH_take (i := 15) (v := ?vv66) (by rfl) (by kernel_rfl) (by kernel_rfl) (by kernel_rfl) (by intro _ _ _ h; exact h) (Or.inl ⟨by kernel_rfl, ?hy66⟩) (by assumption) ?rest66
            case hy66 =>
              intro w' hSw
              have hSw : Keeps _ w' := hSw
              clear hSw
              go_simp
              try with_reducible rfl
            change wpAnyH _ _ _ _ _ _ _ (Act.put _ (some 122) _) _
            try simp only [Act.put, List.setIfInBounds_toArray, List.set_cons_zero, List.set_cons_succ]
            refine wpAnyH_take (i := 16) (v := ?vv67) (by rfl) (by kernel_rfl) (by kernel_rfl) (by kernel_rfl) (by intro _ _ _ h; exact h) (Or.inl ⟨by kernel_rfl, ?hy67⟩) (by assumption) ?rest67
            case hy67 =>
              intro w' hSw
              have hSw : Keeps _ w' := hSw
              have hx := keep1 hSw hk3
              clear hSw
              go_simp
              try with_reducible rfl
            change wpAnyH _ _ _ _ _ _ _ (Act.put _ (some 123) _) _
            try simp only [Act.put, List.setIfInBounds_toArray, List.set_cons_zero, List.set_cons_succ]
            refine wpAnyH_take (i := 17) (v := ?vv68) (by rfl) (by kernel_rfl) (by kernel_rfl) (by kernel_rfl) (by intro _ _ _ h; exact h) (Or.inl ⟨by kernel_rfl, ?hy68⟩) (by assumption) ?rest68
            case hy68 =>
              intro w' hSw
              have hSw : Keeps _ w' := hSw
              have hc := str_at' (HRp.out.keeps hSw)
              clear hSw
              go_simp
              try with_reducible rfl
            change wpAnyH _ _ _ _ _ _ _ (Act.put _ (some 124) _) _
            try simp only [Act.put, List.setIfInBounds_toArray, List.set_cons_zero, List.set_cons_succ]
            refine wpAnyH_take (i := 18) (v := ?vv69) (by rfl) (by kernel_rfl) (by kernel_rfl) (by kernel_rfl) (by intro _ _ _ h; exact h) (Or.inl ⟨by kernel_rfl, ?hy69⟩) (by assumption) ?rest69
            case hy69 =>
              intro w' hSw
              have hSw : Keeps _ w' := hSw
              clear hSw
              go_simp
              try with_reducible rfl
            change wpAnyH _ _ _ _ _ _ _ (Act.put _ (some 125) _) _
            try simp only [Act.put, List.setIfInBounds_toArray, List.set_cons_zero, List.set_cons_succ]
            refine wpAnyH_take (i := 19) (v := ?vv70) (by rfl) (by kernel_rfl) (by kernel_rfl) (by kernel_rfl) (by intro _ _ _ h; exact h) (Or.inl ⟨by kernel_rfl, ?hy70⟩) (by assumption) ?rest70
            case hy70 =>
              intro w' hSw
              have hSw : Keeps _ w' := hSw
              clear hSw
              go_simp
              try with_reducible rfl
            change wpAnyH _ _ _ _ _ _ _ (Act.put _ (some 126) _) _
            try simp only [Act.put, List.setIfInBounds_toArray, List.set_cons_zero, List.set_cons_succ]
            refine wpAnyH_take (i := 20) (v := ?vv71) (by rfl) (by kernel_rfl) (by kernel_rfl) (by kernel_rfl) (by intro _ _ _ h; exact h) (Or.inl ⟨by kernel_rfl, ?hy71⟩) (by assumption) ?rest71
            case hy71 =>
              intro w' hSw
              have hSw : Keeps _ w' := hSw
              clear hSw
              go_simp
              try with_reducible rfl
            change wpAnyH _ _ _ _ _ _ _ (Act.put _ (some 127) _) _
            try simp only [Act.put, List.setIfInBounds_toArray, List.set_cons_zero, List.set_cons_succ]
            refine wpAnyH_take (i := 21) (v := ?vv72) (by rfl) (by kernel_rfl) (by kernel_rfl) (by kernel_rfl) (by intro _ _ _ h; exact h) (Or.inl ⟨by kernel_rfl, ?hy72⟩) (by assumption) ?rest72
            case hy72 =>
              intro w' hSw
              have hSw : Keeps _ w' := hSw
              have hx := keep1 hSw hcell
              clear hSw
              go_simp
              try with_reducible rfl
            change wpAnyH _ _ _ _ _ _ _ (Act.put _ (some 128) _) _
            try simp only [Act.put, List.setIfInBounds_toArray, List.set_cons_zero, List.set_cons_succ]
            refine wpAnyH_take (i := 22) (v := ?vv73) (by rfl) (by kernel_rfl) (by kernel_rfl) (by kernel_rfl) (by intro _ _ _ h; exact h) (Or.inl ⟨by kernel_rfl, ?hy73⟩) (by assumption) ?rest73
            case hy73 =>
              intro w' hSw
              have hSw : Keeps _ w' := hSw
              have hc := str_at' (HPay.out.keeps hSw)
              clear hSw
              go_simp
              try with_reducible rfl
            change wpAnyH _ _ _ _ _ _ _ (Act.put _ (some 129) _) _
            try simp only [Act.put, List.setIfInBounds_toArray, List.set_cons_zero, List.set_cons_succ]
            refine wpAnyH_take (i := 23) (v := ?vv74) (by rfl) (by kernel_rfl) (by kernel_rfl) (by kernel_rfl) (by intro _ _ _ h; exact h) (Or.inl ⟨by kernel_rfl, ?hy74⟩) (by assumption) ?rest74
            case hy74 =>
              intro w' hSw
              have hSw : Keeps _ w' := hSw
              clear hSw
              go_simp
              try with_reducible rfl
            change wpAnyH _ _ _ _ _ _ _ (Act.put _ (some 130) _) _
            try simp only [Act.put, List.setIfInBounds_toArray, List.set_cons_zero, List.set_cons_succ]
            refine wpAnyH_take (i := 24) (v := ?vv75) (by rfl) (by kernel_rfl) (by kernel_rfl) (by kernel_rfl) (by intro _ _ _ h; exact h) (Or.inl ⟨by kernel_rfl, ?hy75⟩) (by assumption) ?rest75
            case hy75 =>
              intro w' hSw
              have hSw : Keeps _ w' := hSw
              clear hSw
              go_simp
              try with_reducible rfl
            change wpAnyH _ _ _ _ _ _ _ (Act.put _ (some 131) _) _
            try simp only [Act.put, List.setIfInBounds_toArray, List.set_cons_zero, List.set_cons_succ]
            refine wpAnyH_done (by kernel_rfl) ?_ _
            refine NoPanic.normal ?_
            go_wp2_with fail
            go_roundw
            case rel => exact ⟨j + 1, by simp, by omega, HKj.out.trans hHeld⟩
            case measure =>
              simp only [intOf]
              omega
          · go_wp2_with fail
            go_ret
            exact ⟨rfl, HK4.out.trans HKj.out⟩
end Frm
end Go.Proofs.Ytfmjlgkbohidjaa
