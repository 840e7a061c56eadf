/- The law FrameTorn, walked. -/
import Derived.Test.YtfmjlgkbohidjaaFrameRows
import Derived.Test.YtfmjlgkbohidjaaFrameTornPlain
import Derived.Test.YtfmjlgkbohidjaaFrameRefScan
import Derived.Test.YtfmjlgkbohidjaaOctetLaws
namespace Go.Proofs.Ytfmjlgkbohidjaa
open Go.RowKit
namespace Frm
open Oct

set_option maxRecDepth 100000 in
set_option maxHeartbeats 8000000 in
theorem frameTorn_walk (W : World) (v0 : Value) (l : List (Value × List UInt8)) (v1 : Value) (ks : List UInt8) (v2 : Value) (ah : List UInt8) (v3 : Value) (tn : List UInt8) (cut : Int) (r0 : RowS W 1 v0 l.length (l.flatMap payC)) (w0 : ∀ y ∈ l, payOk W y) (r1 : Row W v1 (ks.map u8v)) (r2 : Row W v2 (ah.map u8v)) (r3 : Row W v3 (tn.map u8v)) (_w4 : (Lit.int .i64 cut).wf = true) :
    Calls Try.prog 12 #[v0, v1, v2, v3, .int .i64 cut] W fun e w' => e = .returned (.bool true) ∧ Keeps W w' := by
  have r0 := r0.row
  rw [pay_map] at r0
  obtain ⟨hcw1, hcw2⟩ := i64_wf _w4
  clear _w4
  obtain ⟨p, cap, rfl, hc1, hc2⟩ := r0.form
  rw [List.length_map] at hc1 ⊢
  obtain ⟨p1, cap1, rfl, hc3, hc4⟩ := r1.formB
  obtain ⟨p2, cap2, rfl, hc5, hc6⟩ := r2.formB
  obtain ⟨p3, cap3, rfl, hc7, hc8⟩ := r3.formB
  unfold maxLen at hc2
  have HR := Lib.hid r0
  rw [List.length_map] at HR
  have HR1 := Lib.hid r1
  have HR2 := Lib.hid r2
  have HR3 := Lib.hid r3
  have HP := Lib.hid w0
  have CB := Lib.hid (fun w (k : Keeps W w) => bulk_any (.slice p l.length cap) l w (HR.out.keeps k) (fun x hx => (HP.out x hx).keeps k))
  clear r0 r1 r2 r3 w0
  go_enter Try.func12, Try.ntmps12
  go_wp2_with fail
  refine (awake_any _).mono ?_
  rintro e w1 ⟨rfl, hK1⟩
  have HK1 := Lib.hid hK1
  clear hK1
  go_wp2_with fail
  refine (CB.out _ HK1.out).mono ?_
  rintro e w2 ⟨n, rfl, hsmall, rfl⟩
  have HSm := Lib.hid hsmall
  clear hsmall
  by_cases hn : 1000 < n
  · have hnI : (1000 : Int) < n := by omega
    go_wp2_with fail
    go_ret
    exact ⟨rfl, HK1.out⟩
  have hnI : decide ((1000 : Int) < n) = false := by simp; omega
  by_cases hl : 30 < l.length
  · have hlI : (30 : Int) < l.length := by omega
    go_wp2_with fail
    go_ret
    exact ⟨rfl, HK1.out⟩
  have hlI : decide ((30 : Int) < l.length) = false := by simp; omega
  by_cases hk : ks.length < l.length
  · have hkI : (ks.length : Int) < l.length := by omega
    go_wp2_with fail
    go_ret
    exact ⟨rfl, HK1.out⟩
  have hkI : decide ((ks.length : Int) < l.length) = false := by simp; omega
  by_cases hah : 300 < ah.length
  · have haI : (300 : Int) < ah.length := by omega
    go_wp2_with fail
    go_ret
    exact ⟨rfl, HK1.out⟩
  have haI : decide ((300 : Int) < ah.length) = false := by simp; omega
  by_cases htn : 300 < tn.length
  · have htI : (300 : Int) < tn.length := by omega
    go_wp2_with fail
    go_ret
    exact ⟨rfl, HK1.out⟩
  have htI : decide ((300 : Int) < tn.length) = false := by simp; omega
  have hs := HSm.out (by omega)
  have HS := Lib.hid hs
  have HZ := Lib.hid (zipF_ok (ks := ks) hs)
  have HZl := Lib.hid (zipF_len (ks := ks) (l := l) (by omega))
  have HZa := Lib.hid (fun i h1 h2 => zipF_at (ks := ks) (l := l) (i := i) h1 h2)
  have CR := Lib.hid (fun w (k : Keeps W w) => rows_any (.slice p l.length cap) (.slice p1 ks.length cap1) l ks w (HR.out.keeps k) (fun x hx => (HP.out x hx).keeps k) (HR1.out.keeps k) (by omega) (by omega) HS.out)
  clear hs
  generalize zipF ks l = F at *
  have HOk : Hid (catOk F) := Lib.hid (fun x hx => ⟨(HZ.out x hx).1, by have := (HZ.out x hx).2; omega⟩)
  have hFl : (cat F).length ≤ 60570 := by
    have := cat_len F HZ.out
    have h3 := HZl.out
    omega
  go_wp2_with fail
  refine (CR.out _ HK1.out).mono ?_
  rintro e w3 ⟨va, ve, rfl, hA, hE, hK3⟩
  obtain ⟨pa, ca, rfl, hca1, hca2⟩ := hA.row.formB
  obtain ⟨pe, ce, rfl, hce1, hce2⟩ := hE.row.form
  have HA := Lib.hid hA
  have HK3 := Lib.hid (HK1.out.trans hK3)
  have hsz3 := HK3.out.size
  clear hA hE hK3 hce1 hce2
  generalize (endsL F l.length).length = eln at *
  go_wp2_with fail
  go_loopw [13] (fun iv wr => ∃ i : Nat, iv = .int .i64 (i : Int) ∧ i ≤ 2 ∧ Keeps w3 wr) (fun iv _ => 2 - (intOf iv).toNat)
  case atStart => exact ⟨0, rfl, by omega, Keeps.refl _⟩
  case round =>
    obtain ⟨i, rfl, hi, hKr⟩ := hrel
    have HKr := Lib.hid hKr
    have hszr := hKr.size
    clear hKr
    have hcase : i = 0 ∨ i = 1 ∨ i = 2 := by omega
    rcases hcase with rfl | rfl | rfl
    · have HFR := HR2.out.keeps (HK3.out.trans HKr.out)
      have HFR := Lib.hid HFR
      have HPre := Lib.hid (behind_found HOk.out ah)
      have hfrl : ah.length ≤ 1000 := by omega
      have HKx := HKr
      go_upto_region 13 with fail
      go_wp2_with (at_builtin; first
        | (refine wpList_app1 (base := w3.heap.size) u8ok rfl _ _ rfl (.slice (some ⟨wr.heap.size, 0, none⟩) 0 0) (.slice p2 ah.length cap2) [] (ah.map u8v) rfl rfl (ownsRow_zero rfl (by omega)) (HFR.out.keeps ((Keeps.refl _).alloc _)) (oneCell_map_u8 _) (by simp; omega) (by omega) (by simp; omega) ?_; intro v6 w6 ho6 hg6 hf6; rw [List.nil_append] at ho6; obtain ⟨p6, c6, rfl, -, -⟩ := ho6.row.formB; have HK6 := Lib.hid ((HKx.out.alloc _).grown hg6 (fun x hx => by simp [Value.ownBlock] at hx; omega)); have HO6 := Lib.hid ho6; have hsz6 := HK6.out.size; have hbase6 := ho6.block_lt; clear hf6 ho6)
        | (refine wpList_app1 (base := w3.heap.size) u8ok rfl _ _ rfl (.slice p6 ah.length c6) (.slice pa (cat F).length ca) (ah.map u8v) ((cat F).map u8v) rfl rfl HO6.out (HA.out.row.keeps HK6.out) (oneCell_map_u8 _) (by simp; omega) (by omega) (by omega) ?_; intro v7 w7 ho7 hg7 hf7; rw [← List.map_append] at ho7; have HO7 := Lib.hid ho7; have HG7 := Lib.hid hg7; clear hf7 ho7 hg7))
      have CS := scan_any v7 (ah ++ cat F) w7 HO7.out.row (by rw [List.length_append]; omega)
      refine CS.mono ?_
      rintro e w8 ⟨vf, fl, gv, rfl, hfl, hmf, -, hK8⟩
      obtain ⟨pre, hpre⟩ := HPre.out
      have HK8 := Lib.hid ((HK6.out.grown HG7.out (fun x hx => ownsRow_base HO6.out x hx)).trans hK8)
      obtain ⟨pf, cf, rfl, hcf1, hcf2⟩ := ownsRow_form hfl.own
      have hcount : fl.length ≤ 61570 := by
        have h1 := (scanN_count (ah ++ cat F) (ah ++ cat F).length 0 0).1
        have h2 := congrArg List.length hmf
        rw [List.length_map] at h2
        have h3 : (scanR (ah ++ cat F)).1.length ≤ (ah ++ cat F).length := h1
        rw [List.length_append] at h3
        omega
      have hfm : fl.length = pre.length + l.length := by
        have h1 := congrArg List.length hpre
        rw [← hmf] at h1
        simp only [List.length_map, List.length_append] at h1
        have := HZl.out
        omega
      have HFk : Hid (∀ j k (_ : j = pre.length + k) (h1 : j < fl.length) (h2 : k < l.length) (h3 : k < ks.length), fl[j].1.kind = (ks[k].toNat : Int) ∧ fl[j].1.pay = l[k].2) := Lib.hid (fun j k hjk h1 h2 h3 => by
        have h := congrArg (fun z => z[j]?) hpre
        rw [← hmf] at h
        rw [List.getElem?_append_right (by omega), show j - pre.length = k from by omega] at h
        simp only [List.getElem?_map, HZa.out k h3 h2, List.getElem?_eq_getElem h1] at h
        simp only [Option.map_some, Option.some.injEq, kp, kq, Prod.mk.injEq] at h
        exact h)
      generalize pre.length = pn at *
      have HFl := Lib.hid hfl
      have HFm := Lib.hid hfm
      rw [hfm] at HFl hcf1 hcount ⊢
      have hpn0 : decide ((pn : Int) < 0) = false := by simp
      clear hfl hmf hpre CS hK8 hfm HPre
      go_wp2_with fail
      go_loopw [20] (fun kv wr => ∃ k : Nat, kv = .int .i64 (k : Int) ∧ k ≤ l.length ∧ Keeps w8 wr) (fun kv _ => l.length - (intOf kv).toNat)
      case atStart => exact ⟨0, rfl, Nat.zero_le _, Keeps.refl _⟩
      case round =>
        obtain ⟨k, rfl, hk9, hKj⟩ := hrel
        have HKj := Lib.hid hKj
        by_cases hlk : k < l.length
        · have hkk9 : k < ks.length := by omega
          have hjf : pn + k < fl.length := by have := HFm.out; omega
          obtain ⟨g, hpf, ⟨-, -, hk2, hk3⟩, hrp⟩ := (HFl.out.keeps hKj).one hjf
          subst hpf
          have hkk := HFk.out (pn + k) k (by omega) hjf hlk hkk9
          rw [hkk.1] at hk2
          rw [hkk.2] at hrp
          have hKW := HK3.out.trans (HK8.out.trans hKj)
          obtain ⟨b, off, cap', hv, hc⟩ := row_cells (HR.out.keeps hKW) (by rw [List.length_map]; omega)
          obtain ⟨b1, off1, cap1', hv1, -, -, hc1'⟩ := (HR1.out.keeps hKW).bytesAt (by omega)
          rw [List.length_map] at hv
          simp only [Value.slice.injEq] at hv hv1
          obtain ⟨rfl, -, rfl⟩ := hv
          obtain ⟨rfl, -, rfl⟩ := hv1
          have hcell : wr.cell? ⟨b, off + k, none⟩ = some l[k].1 := hc.out k _ (by simp [hlk])
          have hcell1 : wr.cell? ⟨b1, off1 + k, none⟩ = some (.int .u8 (ks[k].toNat : Int)) := hc1'.out k _ (by simp [hkk9])
          have hpay : payOk wr l[k] := (HP.out l[k] (List.getElem_mem hlk)).keeps hKW
          have hkb := ks[k].toNat_lt
          unfold payOk at hpay
          have HPay := Lib.hid hpay
          have HRp := Lib.hid hrp
          clear hkk hrp hpay
          generalize l[k] = y at *
          generalize ks[k] = kd at *
          generalize fl[pn + k] = fy at *
          have hwk : IntKind.i64.wrap (kd.toNat : Int) = (kd.toNat : Int) := IntWalk.i64_in _ (by omega)
          have hwi : IntKind.i64.wrap (((pn : Nat) : Int) + (k : Int)) = ((pn : Nat) : Int) + (k : Int) := IntWalk.i64_in _ (by omega)
          have hix : (((pn : Nat) : Int) + (k : Int)).toNat = pn + k := by omega
          have hixl : ((pn : Nat) : Int) + (k : Int) < ((pn : Nat) : Int) + (l.length : Int) := by omega
          have hix0 : 0 ≤ ((pn : Nat) : Int) + (k : Int) := by omega
          go_upto_region 20 with fail
          refine wp_region_noPanic ?_
          refine wp_region_held_drew (S := fun w' => Keeps (wr) w') (by kernel_rfl) ((Keeps.refl _).drew) (fun _ => ?_)
          have hHeld : Keeps (wr) (wr).drew := (Keeps.refl _).drew
          refine wpAnyH_take (i := 0) (v := ?vv1) (by rfl) (by kernel_rfl) (by kernel_rfl) (by kernel_rfl) (by intro _ _ _ h; exact h) (Or.inl ⟨by kernel_rfl, ?hy1⟩) (by assumption) ?rest1
          case hy1 =>
            intro w' hSw
            have hSw : Keeps _ w' := hSw
            clear hSw
            go_simp
            try with_reducible rfl
          change wpAnyH _ _ _ _ _ _ _ (Act.put _ (some 104) _) _
          try simp only [Act.put, List.setIfInBounds_toArray, List.set_cons_zero, List.set_cons_succ]
          refine wpAnyH_take (i := 1) (v := ?vv2) (by rfl) (by kernel_rfl) (by kernel_rfl) (by kernel_rfl) (by intro _ _ _ h; exact h) (Or.inl ⟨by kernel_rfl, ?hy2⟩) (by assumption) ?rest2
          case hy2 =>
            intro w' hSw
            have hSw : Keeps _ w' := hSw
            clear hSw
            go_simp
            try with_reducible rfl
          change wpAnyH _ _ _ _ _ _ _ (Act.put _ (some 105) _) _
          try simp only [Act.put, List.setIfInBounds_toArray, List.set_cons_zero, List.set_cons_succ]
          refine wpAnyH_take (i := 2) (v := ?vv3) (by rfl) (by kernel_rfl) (by kernel_rfl) (by kernel_rfl) (by intro _ _ _ h; exact h) (Or.inl ⟨by kernel_rfl, ?hy3⟩) (by assumption) ?rest3
          case hy3 =>
            intro w' hSw
            have hSw : Keeps _ w' := hSw
            clear hSw
            go_simp
            try with_reducible rfl
          change wpAnyH _ _ _ _ _ _ _ (Act.put _ (some 106) _) _
          try simp only [Act.put, List.setIfInBounds_toArray, List.set_cons_zero, List.set_cons_succ]
          refine wpAnyH_take (i := 3) (v := ?vv4) (by rfl) (by kernel_rfl) (by kernel_rfl) (by kernel_rfl) (by intro _ _ _ h; exact h) (Or.inl ⟨by kernel_rfl, ?hy4⟩) (by assumption) ?rest4
          case hy4 =>
            intro w' hSw
            have hSw : Keeps _ w' := hSw
            clear hSw
            go_simp
            try with_reducible rfl
          change wpAnyH _ _ _ _ _ _ _ (Act.put _ (some 107) _) _
          try simp only [Act.put, List.setIfInBounds_toArray, List.set_cons_zero, List.set_cons_succ]
          refine wpAnyH_take (i := 4) (v := ?vv5) (by rfl) (by kernel_rfl) (by kernel_rfl) (by kernel_rfl) (by intro _ _ _ h; exact h) (Or.inl ⟨by kernel_rfl, ?hy5⟩) (by assumption) ?rest5
          case hy5 =>
            intro w' hSw
            have hSw : Keeps _ w' := hSw
            clear hSw
            go_simp
            try with_reducible rfl
          change wpAnyH _ _ _ _ _ _ _ (Act.put _ (some 108) _) _
          try simp only [Act.put, List.setIfInBounds_toArray, List.set_cons_zero, List.set_cons_succ]
          refine wpAnyH_take (i := 5) (v := ?vv6) (by rfl) (by kernel_rfl) (by kernel_rfl) (by kernel_rfl) (by intro _ _ _ h; exact h) (Or.inl ⟨by kernel_rfl, ?hy6⟩) (by assumption) ?rest6
          case hy6 =>
            intro w' hSw
            have hSw : Keeps _ w' := hSw
            clear hSw
            go_simp
            try with_reducible rfl
          change wpAnyH _ _ _ _ _ _ _ (Act.put _ (some 109) _) _
          try simp only [Act.put, List.setIfInBounds_toArray, List.set_cons_zero, List.set_cons_succ]
          refine wpAnyH_take (i := 6) (v := ?vv7) (by rfl) (by kernel_rfl) (by kernel_rfl) (by kernel_rfl) (by intro _ _ _ h; exact h) (Or.inl ⟨by kernel_rfl, ?hy7⟩) (by assumption) ?rest7
          case hy7 =>
            intro w' hSw
            have hSw : Keeps _ w' := hSw
            have hx := keep1 hSw hk2
            clear hSw
            go_simp
            try with_reducible rfl
          change wpAnyH _ _ _ _ _ _ _ (Act.put _ (some 110) _) _
          try simp only [Act.put, List.setIfInBounds_toArray, List.set_cons_zero, List.set_cons_succ]
          refine wpAnyH_take (i := 7) (v := ?vv8) (by rfl) (by kernel_rfl) (by kernel_rfl) (by kernel_rfl) (by intro _ _ _ h; exact h) (Or.inl ⟨by kernel_rfl, ?hy8⟩) (by assumption) ?rest8
          case hy8 =>
            intro w' hSw
            have hSw : Keeps _ w' := hSw
            clear hSw
            go_simp
            try with_reducible rfl
          change wpAnyH _ _ _ _ _ _ _ (Act.put _ (some 111) _) _
          try simp only [Act.put, List.setIfInBounds_toArray, List.set_cons_zero, List.set_cons_succ]
          refine wpAnyH_take (i := 8) (v := ?vv9) (by rfl) (by kernel_rfl) (by kernel_rfl) (by kernel_rfl) (by intro _ _ _ h; exact h) (Or.inl ⟨by kernel_rfl, ?hy9⟩) (by assumption) ?rest9
          case hy9 =>
            intro w' hSw
            have hSw : Keeps _ w' := hSw
            clear hSw
            go_simp
            try with_reducible rfl
          change wpAnyH _ _ _ _ _ _ _ (Act.put _ (some 112) _) _
          try simp only [Act.put, List.setIfInBounds_toArray, List.set_cons_zero, List.set_cons_succ]
          refine wpAnyH_take (i := 9) (v := ?vv10) (by rfl) (by kernel_rfl) (by kernel_rfl) (by kernel_rfl) (by intro _ _ _ h; exact h) (Or.inl ⟨by kernel_rfl, ?hy10⟩) (by assumption) ?rest10
          case hy10 =>
            intro w' hSw
            have hSw : Keeps _ w' := hSw
            clear hSw
            go_simp
            try with_reducible rfl
          change wpAnyH _ _ _ _ _ _ _ (Act.put _ (some 113) _) _
          try simp only [Act.put, List.setIfInBounds_toArray, List.set_cons_zero, List.set_cons_succ]
          refine wpAnyH_take (i := 10) (v := ?vv11) (by rfl) (by kernel_rfl) (by kernel_rfl) (by kernel_rfl) (by intro _ _ _ h; exact h) (Or.inl ⟨by kernel_rfl, ?hy11⟩) (by assumption) ?rest11
          case hy11 =>
            intro w' hSw
            have hSw : Keeps _ w' := hSw
            have hx := keep1 hSw hcell1
            clear hSw
            go_simp
            try with_reducible rfl
          change wpAnyH _ _ _ _ _ _ _ (Act.put _ (some 114) _) _
          try simp only [Act.put, List.setIfInBounds_toArray, List.set_cons_zero, List.set_cons_succ]
          refine wpAnyH_take (i := 11) (v := ?vv12) (by rfl) (by kernel_rfl) (by kernel_rfl) (by kernel_rfl) (by intro _ _ _ h; exact h) (Or.inl ⟨by kernel_rfl, ?hy12⟩) (by assumption) ?rest12
          case hy12 =>
            intro w' hSw
            have hSw : Keeps _ w' := hSw
            clear hSw
            go_simp
            try with_reducible rfl
          change wpAnyH _ _ _ _ _ _ _ (Act.put _ (some 115) _) _
          try simp only [Act.put, List.setIfInBounds_toArray, List.set_cons_zero, List.set_cons_succ]
          refine wpAnyH_take (i := 12) (v := ?vv13) (by rfl) (by kernel_rfl) (by kernel_rfl) (by kernel_rfl) (by intro _ _ _ h; exact h) (Or.inl ⟨by kernel_rfl, ?hy13⟩) (by assumption) ?rest13
          case hy13 =>
            intro w' hSw
            have hSw : Keeps _ w' := hSw
            clear hSw
            go_simp
            try with_reducible rfl
          change wpAnyH _ _ _ _ _ _ _ (Act.put _ (some 116) _) _
          try simp only [Act.put, List.setIfInBounds_toArray, List.set_cons_zero, List.set_cons_succ]
          refine wpAnyH_take (i := 13) (v := ?vv14) (by rfl) (by kernel_rfl) (by kernel_rfl) (by kernel_rfl) (by intro _ _ _ h; exact h) (Or.inl ⟨by kernel_rfl, ?hy14⟩) (by assumption) ?rest14
          case hy14 =>
            intro w' hSw
            have hSw : Keeps _ w' := hSw
            clear hSw
            go_simp
            try with_reducible rfl
          change wpAnyH _ _ _ _ _ _ _ (Act.put _ (some 117) _) _
          try simp only [Act.put, List.setIfInBounds_toArray, List.set_cons_zero, List.set_cons_succ]
          refine wpAnyH_take (i := 14) (v := ?vv15) (by rfl) (by kernel_rfl) (by kernel_rfl) (by kernel_rfl) (by intro _ _ _ h; exact h) (Or.inl ⟨by kernel_rfl, ?hy15⟩) (by assumption) ?rest15
          case hy15 =>
            intro w' hSw
            have hSw : Keeps _ w' := hSw
            clear hSw
            go_simp
            try with_reducible rfl
          change wpAnyH _ _ _ _ _ _ _ (Act.put _ (some 118) _) _
          try simp only [Act.put, List.setIfInBounds_toArray, List.set_cons_zero, List.set_cons_succ]
          refine wpAnyH_take (i := 15) (v := ?vv16) (by rfl) (by kernel_rfl) (by kernel_rfl) (by kernel_rfl) (by intro _ _ _ h; exact h) (Or.inl ⟨by kernel_rfl, ?hy16⟩) (by assumption) ?rest16
          case hy16 =>
            intro w' hSw
            have hSw : Keeps _ w' := hSw
            clear hSw
            go_simp
            try with_reducible rfl
          change wpAnyH _ _ _ _ _ _ _ (Act.put _ (some 119) _) _
          try simp only [Act.put, List.setIfInBounds_toArray, List.set_cons_zero, List.set_cons_succ]
          refine wpAnyH_take (i := 16) (v := ?vv17) (by rfl) (by kernel_rfl) (by kernel_rfl) (by kernel_rfl) (by intro _ _ _ h; exact h) (Or.inl ⟨by kernel_rfl, ?hy17⟩) (by assumption) ?rest17
          case hy17 =>
            intro w' hSw
            have hSw : Keeps _ w' := hSw
            clear hSw
            go_simp
            try with_reducible rfl
          change wpAnyH _ _ _ _ _ _ _ (Act.put _ (some 120) _) _
          try simp only [Act.put, List.setIfInBounds_toArray, List.set_cons_zero, List.set_cons_succ]
          refine wpAnyH_take (i := 17) (v := ?vv18) (by rfl) (by kernel_rfl) (by kernel_rfl) (by kernel_rfl) (by intro _ _ _ h; exact h) (Or.inl ⟨by kernel_rfl, ?hy18⟩) (by assumption) ?rest18
          case hy18 =>
            intro w' hSw
            have hSw : Keeps _ w' := hSw
            clear hSw
            go_simp
            try with_reducible rfl
          change wpAnyH _ _ _ _ _ _ _ (Act.put _ (some 121) _) _
          try simp only [Act.put, List.setIfInBounds_toArray, List.set_cons_zero, List.set_cons_succ]
          refine wpAnyH_take (i := 18) (v := ?vv19) (by rfl) (by kernel_rfl) (by kernel_rfl) (by kernel_rfl) (by intro _ _ _ h; exact h) (Or.inl ⟨by kernel_rfl, ?hy19⟩) (by assumption) ?rest19
          case hy19 =>
            intro w' hSw
            have hSw : Keeps _ w' := hSw
            clear hSw
            go_simp
            try with_reducible rfl
          change wpAnyH _ _ _ _ _ _ _ (Act.put _ (some 122) _) _
          try simp only [Act.put, List.setIfInBounds_toArray, List.set_cons_zero, List.set_cons_succ]
          refine wpAnyH_take (i := 19) (v := ?vv20) (by rfl) (by kernel_rfl) (by kernel_rfl) (by kernel_rfl) (by intro _ _ _ h; exact h) (Or.inl ⟨by kernel_rfl, ?hy20⟩) (by assumption) ?rest20
          case hy20 =>
            intro w' hSw
            have hSw : Keeps _ w' := hSw
            clear hSw
            go_simp
            try with_reducible rfl
          change wpAnyH _ _ _ _ _ _ _ (Act.put _ (some 123) _) _
          try simp only [Act.put, List.setIfInBounds_toArray, List.set_cons_zero, List.set_cons_succ]
          refine wpAnyH_take (i := 20) (v := ?vv21) (by rfl) (by kernel_rfl) (by kernel_rfl) (by kernel_rfl) (by intro _ _ _ h; exact h) (Or.inl ⟨by kernel_rfl, ?hy21⟩) (by assumption) ?rest21
          case hy21 =>
            intro w' hSw
            have hSw : Keeps _ w' := hSw
            have hx := keep1 hSw hk3
            clear hSw
            go_simp
            try with_reducible rfl
          change wpAnyH _ _ _ _ _ _ _ (Act.put _ (some 124) _) _
          try simp only [Act.put, List.setIfInBounds_toArray, List.set_cons_zero, List.set_cons_succ]
          refine wpAnyH_take (i := 21) (v := ?vv22) (by rfl) (by kernel_rfl) (by kernel_rfl) (by kernel_rfl) (by intro _ _ _ h; exact h) (Or.inl ⟨by kernel_rfl, ?hy22⟩) (by assumption) ?rest22
          case hy22 =>
            intro w' hSw
            have hSw : Keeps _ w' := hSw
            have hc := str_at' (HRp.out.keeps hSw)
            clear hSw
            go_simp
            try with_reducible rfl
          change wpAnyH _ _ _ _ _ _ _ (Act.put _ (some 125) _) _
          try simp only [Act.put, List.setIfInBounds_toArray, List.set_cons_zero, List.set_cons_succ]
          refine wpAnyH_take (i := 22) (v := ?vv23) (by rfl) (by kernel_rfl) (by kernel_rfl) (by kernel_rfl) (by intro _ _ _ h; exact h) (Or.inl ⟨by kernel_rfl, ?hy23⟩) (by assumption) ?rest23
          case hy23 =>
            intro w' hSw
            have hSw : Keeps _ w' := hSw
            clear hSw
            go_simp
            try with_reducible rfl
          change wpAnyH _ _ _ _ _ _ _ (Act.put _ (some 126) _) _
          try simp only [Act.put, List.setIfInBounds_toArray, List.set_cons_zero, List.set_cons_succ]
          refine wpAnyH_take (i := 23) (v := ?vv24) (by rfl) (by kernel_rfl) (by kernel_rfl) (by kernel_rfl) (by intro _ _ _ h; exact h) (Or.inl ⟨by kernel_rfl, ?hy24⟩) (by assumption) ?rest24
          case hy24 =>
            intro w' hSw
            have hSw : Keeps _ w' := hSw
            clear hSw
            go_simp
            try with_reducible rfl
          change wpAnyH _ _ _ _ _ _ _ (Act.put _ (some 127) _) _
          try simp only [Act.put, List.setIfInBounds_toArray, List.set_cons_zero, List.set_cons_succ]
          refine wpAnyH_take (i := 24) (v := ?vv25) (by rfl) (by kernel_rfl) (by kernel_rfl) (by kernel_rfl) (by intro _ _ _ h; exact h) (Or.inl ⟨by kernel_rfl, ?hy25⟩) (by assumption) ?rest25
          case hy25 =>
            intro w' hSw
            have hSw : Keeps _ w' := hSw
            clear hSw
            go_simp
            try with_reducible rfl
          change wpAnyH _ _ _ _ _ _ _ (Act.put _ (some 128) _) _
          try simp only [Act.put, List.setIfInBounds_toArray, List.set_cons_zero, List.set_cons_succ]
          refine wpAnyH_take (i := 25) (v := ?vv26) (by rfl) (by kernel_rfl) (by kernel_rfl) (by kernel_rfl) (by intro _ _ _ h; exact h) (Or.inl ⟨by kernel_rfl, ?hy26⟩) (by assumption) ?rest26
          case hy26 =>
            intro w' hSw
            have hSw : Keeps _ w' := hSw
            have hx := keep1 hSw hcell
            clear hSw
            go_simp
            try with_reducible rfl
          change wpAnyH _ _ _ _ _ _ _ (Act.put _ (some 129) _) _
          try simp only [Act.put, List.setIfInBounds_toArray, List.set_cons_zero, List.set_cons_succ]
          refine wpAnyH_take (i := 26) (v := ?vv27) (by rfl) (by kernel_rfl) (by kernel_rfl) (by kernel_rfl) (by intro _ _ _ h; exact h) (Or.inl ⟨by kernel_rfl, ?hy27⟩) (by assumption) ?rest27
          case hy27 =>
            intro w' hSw
            have hSw : Keeps _ w' := hSw
            have hc := str_at' (HPay.out.keeps hSw)
            clear hSw
            go_simp
            try with_reducible rfl
          change wpAnyH _ _ _ _ _ _ _ (Act.put _ (some 130) _) _
          try simp only [Act.put, List.setIfInBounds_toArray, List.set_cons_zero, List.set_cons_succ]
          refine wpAnyH_take (i := 27) (v := ?vv28) (by rfl) (by kernel_rfl) (by kernel_rfl) (by kernel_rfl) (by intro _ _ _ h; exact h) (Or.inl ⟨by kernel_rfl, ?hy28⟩) (by assumption) ?rest28
          case hy28 =>
            intro w' hSw
            have hSw : Keeps _ w' := hSw
            clear hSw
            go_simp
            try with_reducible rfl
          change wpAnyH _ _ _ _ _ _ _ (Act.put _ (some 131) _) _
          try simp only [Act.put, List.setIfInBounds_toArray, List.set_cons_zero, List.set_cons_succ]
          refine wpAnyH_take (i := 28) (v := ?vv29) (by rfl) (by kernel_rfl) (by kernel_rfl) (by kernel_rfl) (by intro _ _ _ h; exact h) (Or.inl ⟨by kernel_rfl, ?hy29⟩) (by assumption) ?rest29
          case hy29 =>
            intro w' hSw
            have hSw : Keeps _ w' := hSw
            clear hSw
            go_simp
            try with_reducible rfl
          change wpAnyH _ _ _ _ _ _ _ (Act.put _ (some 132) _) _
          try simp only [Act.put, List.setIfInBounds_toArray, List.set_cons_zero, List.set_cons_succ]
          refine wpAnyH_done (by kernel_rfl) ?_ _
          refine NoPanic.normal ?_
          go_wp2_with fail
          go_roundw
          case rel => exact ⟨k + 1, by simp, by omega, HKj.out.trans hHeld⟩
          case measure =>
            simp only [intOf]
            omega
        · go_wp2_with fail
          go_roundw
          case rel => exact ⟨1, rfl, by omega, HK8.out.trans HKj.out⟩
          case measure => simp [intOf]
      
    · have CW := Lib.hid (wrap_any 9 (.slice p3 tn.length cap3) tn wr (HR3.out.keeps (HK3.out.trans HKr.out)))
      obtain ⟨hw0, hw9⟩ := wrapL_ok (k := 9) (p := tn) (by omega) (by omega)
      have hBl : 1 ≤ (wrapL 9 tn).length ∧ (wrapL 9 tn).length ≤ 1000 := by
        have h9 : wrapL 9 tn = 80 :: veil (body 9 tn) := hw9
        rw [h9, List.length_cons]
        have := (veil_len (body 9 tn)).2
        rw [body_len] at this
        omega
      have HTorn := Lib.hid (fun j (h : j < (wrapL 9 tn).length) => torn_found HOk.out (k := 9) (p := tn) (by omega) (by omega) h)
      change Hid (∀ j, j < (wrapL 9 tn).length → (scanR ((wrapL 9 tn).take j ++ cat F)).1.map kp = F.map kq) at HTorn
      clear hw0 hw9
      generalize wrapL 9 tn = B at *
      generalize wrapE 9 tn.length = bE at *
      go_wp2_with fail
      refine CW.out.mono ?_
      rintro e w5 ⟨vb, rfl, hown5, hk5⟩
      obtain ⟨pb, cb, rfl, hcb1, hcb2⟩ := hown5.row.formB
      obtain ⟨j, hj⟩ : ∃ j : Nat, min (max cut 0) ((B.length : Int) - 1) = (j : Int) := Int.eq_ofNat_of_zero_le (by omega)
      have hjB : j < B.length := by omega
      have HROWJ : Hid (∀ i, i ≤ B.length → Row w5 (cutv pb 0 i cb) ((B.take i).map u8v)) := Lib.hid (fun i hi => by
        have h := hown5.row.cut (lo := 0) (hi := i) (Nat.zero_le _) (by rw [List.length_map]; omega)
        rw [List.drop_zero, Nat.sub_zero, ← List.map_take] at h
        exact h)
      have HEh : Hid (∀ (i : Nat), i ≤ B.length → ∀ w', (Instr.slice 22 (.slice pb B.length cb) none (some (.int .i64 (i : Int))) none).run Try.prog w' = .ok (cutv pb 0 i cb) w') := Lib.hid (fun i hi w' => run_cut_h w' Try.underlying22 s5 pb B.length cb i (by omega))
      have HPre := Lib.hid (HTorn.out j hjB)
      have hfrl : (B.take j).length ≤ 1000 := by have := List.length_take_le j B; omega
      have HKx := Lib.hid (HKr.out.trans hk5)
      have hszx := hk5.size
      have HJ := Lib.hid hj
      clear hown5 hk5 HTorn hj
      go_upto_region 12 with fail
      go_cut [14] (fun fv wx => Row wx fv ((B.take j).map u8v) ∧ wx = w5)
      case first =>
        as_aux_lemma =>
          by_cases hc0 : cut < 0
          · have hb0 : ¬ ((B.length : Int) - 1 < 0) := by omega
            have hj0 : j = 0 := by have := HJ.out; omega
            have eh := HEh.out 0 (by omega)
            have HX := Lib.hid (HROWJ.out 0 (by omega))
            have hcv : cutv pb 0 0 cb = .slice pb 0 cb := by
              unfold cutv
              split
              · rfl
              · cases pb <;> simp [Addr.add]
            rw [hcv] at HX
            subst hj0
            clear eh hcv
            generalize List.take 0 B = tk at *
            go_wp2_with fail
            go_meet
            exact ⟨HX.out, rfl⟩
          · by_cases hc1 : (B.length : Int) - 1 < cut
            · have hjm : j = B.length - 1 := by have := HJ.out; omega
              have eh := HEh.out j (by omega)
              rw [show (j : Int) = (B.length : Int) - 1 from by omega] at eh
              have HX := Lib.hid (HROWJ.out j (by omega))
              clear HJ hjm
              generalize cutv pb 0 j cb = cv at *
              generalize List.take j B = tk at *
              go_wp2_with fail
              go_meet
              exact ⟨HX.out, rfl⟩
            · have hjc : (j : Int) = cut := by have := HJ.out; omega
              have eh := HEh.out j (by omega)
              rw [hjc] at eh
              have HX := Lib.hid (HROWJ.out j (by omega))
              have hcut0 : 0 ≤ cut := by omega
              clear HJ hjc
              generalize cutv pb 0 j cb = cv at *
              generalize List.take j B = tk at *
              go_wp2_with fail
              go_meet
              exact ⟨HX.out, rfl⟩
      case rest =>
      obtain ⟨hfr, rfl⟩ := hcut
      obtain ⟨pv, cv, rfl, hcv1, hcv2⟩ := hfr.formB
      have HFR := Lib.hid hfr
      clear hfr HROWJ HEh HJ
      generalize B.take j = FR at *
      go_upto_region 13 with fail
      go_wp2_with (at_builtin; first
        | (refine wpList_app1 (base := w3.heap.size) u8ok rfl _ _ rfl (.slice (some ⟨wc.heap.size, 0, none⟩) 0 0) (.slice pv FR.length cv) [] (FR.map u8v) rfl rfl (ownsRow_zero rfl (by omega)) (HFR.out.keeps ((Keeps.refl _).alloc _)) (oneCell_map_u8 _) (by simp; omega) (by omega) (by simp; omega) ?_; intro v6 w6 ho6 hg6 hf6; rw [List.nil_append] at ho6; obtain ⟨p6, c6, rfl, -, -⟩ := ho6.row.formB; have HK6 := Lib.hid ((HKx.out.alloc _).grown hg6 (fun x hx => by simp [Value.ownBlock] at hx; omega)); have HO6 := Lib.hid ho6; have hsz6 := HK6.out.size; have hbase6 := ho6.block_lt; clear hf6 ho6)
        | (refine wpList_app1 (base := w3.heap.size) u8ok rfl _ _ rfl (.slice p6 FR.length c6) (.slice pa (cat F).length ca) (FR.map u8v) ((cat F).map u8v) rfl rfl HO6.out (HA.out.row.keeps HK6.out) (oneCell_map_u8 _) (by simp; omega) (by omega) (by omega) ?_; intro v7 w7 ho7 hg7 hf7; rw [← List.map_append] at ho7; have HO7 := Lib.hid ho7; have HG7 := Lib.hid hg7; clear hf7 ho7 hg7))
      have CS := scan_any v7 (FR ++ cat F) w7 HO7.out.row (by rw [List.length_append]; omega)
      refine CS.mono ?_
      rintro e w8 ⟨vf, fl, gv, rfl, hfl, hmf, -, hK8⟩
      obtain ⟨pre, hpre, hp0⟩ : ∃ pre : List (Int × List UInt8), List.map kp (scanR (FR ++ cat F)).1 = pre ++ F.map kq ∧ pre.length = 0 := ⟨[], HPre.out, rfl⟩
      have HK8 := Lib.hid ((HK6.out.grown HG7.out (fun x hx => ownsRow_base HO6.out x hx)).trans hK8)
      obtain ⟨pf, cf, rfl, hcf1, hcf2⟩ := ownsRow_form hfl.own
      have hcount : fl.length ≤ 61570 := by
        have h1 := (scanN_count (FR ++ cat F) (FR ++ cat F).length 0 0).1
        have h2 := congrArg List.length hmf
        rw [List.length_map] at h2
        have h3 : (scanR (FR ++ cat F)).1.length ≤ (FR ++ cat F).length := h1
        rw [List.length_append] at h3
        omega
      have hfm : fl.length = pre.length + l.length := by
        have h1 := congrArg List.length hpre
        rw [← hmf] at h1
        simp only [List.length_map, List.length_append] at h1
        have := HZl.out
        omega
      have HFk : Hid (∀ j k (_ : j = pre.length + k) (h1 : j < fl.length) (h2 : k < l.length) (h3 : k < ks.length), fl[j].1.kind = (ks[k].toNat : Int) ∧ fl[j].1.pay = l[k].2) := Lib.hid (fun j k hjk h1 h2 h3 => by
        have h := congrArg (fun z => z[j]?) hpre
        rw [← hmf] at h
        rw [List.getElem?_append_right (by omega), show j - pre.length = k from by omega] at h
        simp only [List.getElem?_map, HZa.out k h3 h2, List.getElem?_eq_getElem h1] at h
        simp only [Option.map_some, Option.some.injEq, kp, kq, Prod.mk.injEq] at h
        exact h)
      generalize pre.length = pn at *
      have HFl := Lib.hid hfl
      subst hp0
      rw [Nat.zero_add] at hfm
      have HFm := Lib.hid hfm
      rw [hfm] at HFl hcf1 hcount ⊢
      have hpn0 : decide ((0 : Int) < 0) = false := by simp
      clear hfl hmf hpre CS hK8 hfm HPre
      go_wp2_with fail
      go_loopw [20] (fun kv wr => ∃ k : Nat, kv = .int .i64 (k : Int) ∧ k ≤ l.length ∧ Keeps w8 wr) (fun kv _ => l.length - (intOf kv).toNat)
      case atStart => exact ⟨0, rfl, Nat.zero_le _, Keeps.refl _⟩
      case round =>
        obtain ⟨k, rfl, hk9, hKj⟩ := hrel
        have HKj := Lib.hid hKj
        by_cases hlk : k < l.length
        · have hkk9 : k < ks.length := by omega
          have hjf : k < fl.length := by have := HFm.out; omega
          obtain ⟨g, hpf, ⟨-, -, hk2, hk3⟩, hrp⟩ := (HFl.out.keeps hKj).one hjf
          subst hpf
          have hkk := HFk.out (k) k (by omega) hjf hlk hkk9
          rw [hkk.1] at hk2
          rw [hkk.2] at hrp
          have hKW := HK3.out.trans (HK8.out.trans hKj)
          obtain ⟨b, off, cap', hv, hc⟩ := row_cells (HR.out.keeps hKW) (by rw [List.length_map]; omega)
          obtain ⟨b1, off1, cap1', hv1, -, -, hc1'⟩ := (HR1.out.keeps hKW).bytesAt (by omega)
          rw [List.length_map] at hv
          simp only [Value.slice.injEq] at hv hv1
          obtain ⟨rfl, -, rfl⟩ := hv
          obtain ⟨rfl, -, rfl⟩ := hv1
          have hcell : wr.cell? ⟨b, off + k, none⟩ = some l[k].1 := hc.out k _ (by simp [hlk])
          have hcell1 : wr.cell? ⟨b1, off1 + k, none⟩ = some (.int .u8 (ks[k].toNat : Int)) := hc1'.out k _ (by simp [hkk9])
          have hpay : payOk wr l[k] := (HP.out l[k] (List.getElem_mem hlk)).keeps hKW
          have hkb := ks[k].toNat_lt
          unfold payOk at hpay
          have HPay := Lib.hid hpay
          have HRp := Lib.hid hrp
          clear hkk hrp hpay
          generalize l[k] = y at *
          generalize ks[k] = kd at *
          generalize fl[k] = fy at *
          have hwk : IntKind.i64.wrap (kd.toNat : Int) = (kd.toNat : Int) := IntWalk.i64_in _ (by omega)
          have hwi : IntKind.i64.wrap ((k : Int)) = (k : Int) := IntWalk.i64_in _ (by omega)
          have hix : ((k : Int)).toNat = k := by omega
          have hixl : (k : Int) < (l.length : Int) := by omega
          have hix0 : 0 ≤ (k : Int) := by omega
          go_upto_region 20 with fail
          refine wp_region_noPanic ?_
          refine wp_region_held_drew (S := fun w' => Keeps (wr) w') (by kernel_rfl) ((Keeps.refl _).drew) (fun _ => ?_)
          have hHeld : Keeps (wr) (wr).drew := (Keeps.refl _).drew
          refine wpAnyH_take (i := 0) (v := ?vv30) (by rfl) (by kernel_rfl) (by kernel_rfl) (by kernel_rfl) (by intro _ _ _ h; exact h) (Or.inl ⟨by kernel_rfl, ?hy30⟩) (by assumption) ?rest30
          case hy30 =>
            intro w' hSw
            have hSw : Keeps _ w' := hSw
            clear hSw
            go_simp
            try with_reducible rfl
          change wpAnyH _ _ _ _ _ _ _ (Act.put _ (some 104) _) _
          try simp only [Act.put, List.setIfInBounds_toArray, List.set_cons_zero, List.set_cons_succ]
          refine wpAnyH_take (i := 1) (v := ?vv31) (by rfl) (by kernel_rfl) (by kernel_rfl) (by kernel_rfl) (by intro _ _ _ h; exact h) (Or.inl ⟨by kernel_rfl, ?hy31⟩) (by assumption) ?rest31
          case hy31 =>
            intro w' hSw
            have hSw : Keeps _ w' := hSw
            clear hSw
            go_simp
            try with_reducible rfl
          change wpAnyH _ _ _ _ _ _ _ (Act.put _ (some 105) _) _
          try simp only [Act.put, List.setIfInBounds_toArray, List.set_cons_zero, List.set_cons_succ]
          refine wpAnyH_take (i := 2) (v := ?vv32) (by rfl) (by kernel_rfl) (by kernel_rfl) (by kernel_rfl) (by intro _ _ _ h; exact h) (Or.inl ⟨by kernel_rfl, ?hy32⟩) (by assumption) ?rest32
          case hy32 =>
            intro w' hSw
            have hSw : Keeps _ w' := hSw
            clear hSw
            go_simp
            try with_reducible rfl
          change wpAnyH _ _ _ _ _ _ _ (Act.put _ (some 106) _) _
          try simp only [Act.put, List.setIfInBounds_toArray, List.set_cons_zero, List.set_cons_succ]
          refine wpAnyH_take (i := 3) (v := ?vv33) (by rfl) (by kernel_rfl) (by kernel_rfl) (by kernel_rfl) (by intro _ _ _ h; exact h) (Or.inl ⟨by kernel_rfl, ?hy33⟩) (by assumption) ?rest33
          case hy33 =>
            intro w' hSw
            have hSw : Keeps _ w' := hSw
            clear hSw
            go_simp
            try with_reducible rfl
          change wpAnyH _ _ _ _ _ _ _ (Act.put _ (some 107) _) _
          try simp only [Act.put, List.setIfInBounds_toArray, List.set_cons_zero, List.set_cons_succ]
          refine wpAnyH_take (i := 4) (v := ?vv34) (by rfl) (by kernel_rfl) (by kernel_rfl) (by kernel_rfl) (by intro _ _ _ h; exact h) (Or.inl ⟨by kernel_rfl, ?hy34⟩) (by assumption) ?rest34
          case hy34 =>
            intro w' hSw
            have hSw : Keeps _ w' := hSw
            clear hSw
            go_simp
            try with_reducible rfl
          change wpAnyH _ _ _ _ _ _ _ (Act.put _ (some 108) _) _
          try simp only [Act.put, List.setIfInBounds_toArray, List.set_cons_zero, List.set_cons_succ]
          refine wpAnyH_take (i := 5) (v := ?vv35) (by rfl) (by kernel_rfl) (by kernel_rfl) (by kernel_rfl) (by intro _ _ _ h; exact h) (Or.inl ⟨by kernel_rfl, ?hy35⟩) (by assumption) ?rest35
          case hy35 =>
            intro w' hSw
            have hSw : Keeps _ w' := hSw
            clear hSw
            go_simp
            try with_reducible rfl
          change wpAnyH _ _ _ _ _ _ _ (Act.put _ (some 109) _) _
          try simp only [Act.put, List.setIfInBounds_toArray, List.set_cons_zero, List.set_cons_succ]
          refine wpAnyH_take (i := 6) (v := ?vv36) (by rfl) (by kernel_rfl) (by kernel_rfl) (by kernel_rfl) (by intro _ _ _ h; exact h) (Or.inl ⟨by kernel_rfl, ?hy36⟩) (by assumption) ?rest36
          case hy36 =>
            intro w' hSw
            have hSw : Keeps _ w' := hSw
            have hx := keep1 hSw hk2
            clear hSw
            go_simp
            try with_reducible rfl
          change wpAnyH _ _ _ _ _ _ _ (Act.put _ (some 110) _) _
          try simp only [Act.put, List.setIfInBounds_toArray, List.set_cons_zero, List.set_cons_succ]
          refine wpAnyH_take (i := 7) (v := ?vv37) (by rfl) (by kernel_rfl) (by kernel_rfl) (by kernel_rfl) (by intro _ _ _ h; exact h) (Or.inl ⟨by kernel_rfl, ?hy37⟩) (by assumption) ?rest37
          case hy37 =>
            intro w' hSw
            have hSw : Keeps _ w' := hSw
            clear hSw
            go_simp
            try with_reducible rfl
          change wpAnyH _ _ _ _ _ _ _ (Act.put _ (some 111) _) _
          try simp only [Act.put, List.setIfInBounds_toArray, List.set_cons_zero, List.set_cons_succ]
          refine wpAnyH_take (i := 8) (v := ?vv38) (by rfl) (by kernel_rfl) (by kernel_rfl) (by kernel_rfl) (by intro _ _ _ h; exact h) (Or.inl ⟨by kernel_rfl, ?hy38⟩) (by assumption) ?rest38
          case hy38 =>
            intro w' hSw
            have hSw : Keeps _ w' := hSw
            clear hSw
            go_simp
            try with_reducible rfl
          change wpAnyH _ _ _ _ _ _ _ (Act.put _ (some 112) _) _
          try simp only [Act.put, List.setIfInBounds_toArray, List.set_cons_zero, List.set_cons_succ]
          refine wpAnyH_take (i := 9) (v := ?vv39) (by rfl) (by kernel_rfl) (by kernel_rfl) (by kernel_rfl) (by intro _ _ _ h; exact h) (Or.inl ⟨by kernel_rfl, ?hy39⟩) (by assumption) ?rest39
          case hy39 =>
            intro w' hSw
            have hSw : Keeps _ w' := hSw
            clear hSw
            go_simp
            try with_reducible rfl
          change wpAnyH _ _ _ _ _ _ _ (Act.put _ (some 113) _) _
          try simp only [Act.put, List.setIfInBounds_toArray, List.set_cons_zero, List.set_cons_succ]
          refine wpAnyH_take (i := 10) (v := ?vv40) (by rfl) (by kernel_rfl) (by kernel_rfl) (by kernel_rfl) (by intro _ _ _ h; exact h) (Or.inl ⟨by kernel_rfl, ?hy40⟩) (by assumption) ?rest40
          case hy40 =>
            intro w' hSw
            have hSw : Keeps _ w' := hSw
            have hx := keep1 hSw hcell1
            clear hSw
            go_simp
            try with_reducible rfl
          change wpAnyH _ _ _ _ _ _ _ (Act.put _ (some 114) _) _
          try simp only [Act.put, List.setIfInBounds_toArray, List.set_cons_zero, List.set_cons_succ]
          refine wpAnyH_take (i := 11) (v := ?vv41) (by rfl) (by kernel_rfl) (by kernel_rfl) (by kernel_rfl) (by intro _ _ _ h; exact h) (Or.inl ⟨by kernel_rfl, ?hy41⟩) (by assumption) ?rest41
          case hy41 =>
            intro w' hSw
            have hSw : Keeps _ w' := hSw
            clear hSw
            go_simp
            try with_reducible rfl
          change wpAnyH _ _ _ _ _ _ _ (Act.put _ (some 115) _) _
          try simp only [Act.put, List.setIfInBounds_toArray, List.set_cons_zero, List.set_cons_succ]
          refine wpAnyH_take (i := 12) (v := ?vv42) (by rfl) (by kernel_rfl) (by kernel_rfl) (by kernel_rfl) (by intro _ _ _ h; exact h) (Or.inl ⟨by kernel_rfl, ?hy42⟩) (by assumption) ?rest42
          case hy42 =>
            intro w' hSw
            have hSw : Keeps _ w' := hSw
            clear hSw
            go_simp
            try with_reducible rfl
          change wpAnyH _ _ _ _ _ _ _ (Act.put _ (some 116) _) _
          try simp only [Act.put, List.setIfInBounds_toArray, List.set_cons_zero, List.set_cons_succ]
          refine wpAnyH_take (i := 13) (v := ?vv43) (by rfl) (by kernel_rfl) (by kernel_rfl) (by kernel_rfl) (by intro _ _ _ h; exact h) (Or.inl ⟨by kernel_rfl, ?hy43⟩) (by assumption) ?rest43
          case hy43 =>
            intro w' hSw
            have hSw : Keeps _ w' := hSw
            clear hSw
            go_simp
            try with_reducible rfl
          change wpAnyH _ _ _ _ _ _ _ (Act.put _ (some 117) _) _
          try simp only [Act.put, List.setIfInBounds_toArray, List.set_cons_zero, List.set_cons_succ]
          refine wpAnyH_take (i := 14) (v := ?vv44) (by rfl) (by kernel_rfl) (by kernel_rfl) (by kernel_rfl) (by intro _ _ _ h; exact h) (Or.inl ⟨by kernel_rfl, ?hy44⟩) (by assumption) ?rest44
          case hy44 =>
            intro w' hSw
            have hSw : Keeps _ w' := hSw
            clear hSw
            go_simp
            try with_reducible rfl
          change wpAnyH _ _ _ _ _ _ _ (Act.put _ (some 118) _) _
          try simp only [Act.put, List.setIfInBounds_toArray, List.set_cons_zero, List.set_cons_succ]
          refine wpAnyH_take (i := 15) (v := ?vv45) (by rfl) (by kernel_rfl) (by kernel_rfl) (by kernel_rfl) (by intro _ _ _ h; exact h) (Or.inl ⟨by kernel_rfl, ?hy45⟩) (by assumption) ?rest45
          case hy45 =>
            intro w' hSw
            have hSw : Keeps _ w' := hSw
            clear hSw
            go_simp
            try with_reducible rfl
          change wpAnyH _ _ _ _ _ _ _ (Act.put _ (some 119) _) _
          try simp only [Act.put, List.setIfInBounds_toArray, List.set_cons_zero, List.set_cons_succ]
          refine wpAnyH_take (i := 16) (v := ?vv46) (by rfl) (by kernel_rfl) (by kernel_rfl) (by kernel_rfl) (by intro _ _ _ h; exact h) (Or.inl ⟨by kernel_rfl, ?hy46⟩) (by assumption) ?rest46
          case hy46 =>
            intro w' hSw
            have hSw : Keeps _ w' := hSw
            clear hSw
            go_simp
            try with_reducible rfl
          change wpAnyH _ _ _ _ _ _ _ (Act.put _ (some 120) _) _
          try simp only [Act.put, List.setIfInBounds_toArray, List.set_cons_zero, List.set_cons_succ]
          refine wpAnyH_take (i := 17) (v := ?vv47) (by rfl) (by kernel_rfl) (by kernel_rfl) (by kernel_rfl) (by intro _ _ _ h; exact h) (Or.inl ⟨by kernel_rfl, ?hy47⟩) (by assumption) ?rest47
          case hy47 =>
            intro w' hSw
            have hSw : Keeps _ w' := hSw
            clear hSw
            go_simp
            try with_reducible rfl
          change wpAnyH _ _ _ _ _ _ _ (Act.put _ (some 121) _) _
          try simp only [Act.put, List.setIfInBounds_toArray, List.set_cons_zero, List.set_cons_succ]
          refine wpAnyH_take (i := 18) (v := ?vv48) (by rfl) (by kernel_rfl) (by kernel_rfl) (by kernel_rfl) (by intro _ _ _ h; exact h) (Or.inl ⟨by kernel_rfl, ?hy48⟩) (by assumption) ?rest48
          case hy48 =>
            intro w' hSw
            have hSw : Keeps _ w' := hSw
            clear hSw
            go_simp
            try with_reducible rfl
          change wpAnyH _ _ _ _ _ _ _ (Act.put _ (some 122) _) _
          try simp only [Act.put, List.setIfInBounds_toArray, List.set_cons_zero, List.set_cons_succ]
          refine wpAnyH_take (i := 19) (v := ?vv49) (by rfl) (by kernel_rfl) (by kernel_rfl) (by kernel_rfl) (by intro _ _ _ h; exact h) (Or.inl ⟨by kernel_rfl, ?hy49⟩) (by assumption) ?rest49
          case hy49 =>
            intro w' hSw
            have hSw : Keeps _ w' := hSw
            clear hSw
            go_simp
            try with_reducible rfl
          change wpAnyH _ _ _ _ _ _ _ (Act.put _ (some 123) _) _
          try simp only [Act.put, List.setIfInBounds_toArray, List.set_cons_zero, List.set_cons_succ]
          refine wpAnyH_take (i := 20) (v := ?vv50) (by rfl) (by kernel_rfl) (by kernel_rfl) (by kernel_rfl) (by intro _ _ _ h; exact h) (Or.inl ⟨by kernel_rfl, ?hy50⟩) (by assumption) ?rest50
          case hy50 =>
            intro w' hSw
            have hSw : Keeps _ w' := hSw
            have hx := keep1 hSw hk3
            clear hSw
            go_simp
            try with_reducible rfl
          change wpAnyH _ _ _ _ _ _ _ (Act.put _ (some 124) _) _
          try simp only [Act.put, List.setIfInBounds_toArray, List.set_cons_zero, List.set_cons_succ]
          refine wpAnyH_take (i := 21) (v := ?vv51) (by rfl) (by kernel_rfl) (by kernel_rfl) (by kernel_rfl) (by intro _ _ _ h; exact h) (Or.inl ⟨by kernel_rfl, ?hy51⟩) (by assumption) ?rest51
          case hy51 =>
            intro w' hSw
            have hSw : Keeps _ w' := hSw
            have hc := str_at' (HRp.out.keeps hSw)
            clear hSw
            go_simp
            try with_reducible rfl
          change wpAnyH _ _ _ _ _ _ _ (Act.put _ (some 125) _) _
          try simp only [Act.put, List.setIfInBounds_toArray, List.set_cons_zero, List.set_cons_succ]
          refine wpAnyH_take (i := 22) (v := ?vv52) (by rfl) (by kernel_rfl) (by kernel_rfl) (by kernel_rfl) (by intro _ _ _ h; exact h) (Or.inl ⟨by kernel_rfl, ?hy52⟩) (by assumption) ?rest52
          case hy52 =>
            intro w' hSw
            have hSw : Keeps _ w' := hSw
            clear hSw
            go_simp
            try with_reducible rfl
          change wpAnyH _ _ _ _ _ _ _ (Act.put _ (some 126) _) _
          try simp only [Act.put, List.setIfInBounds_toArray, List.set_cons_zero, List.set_cons_succ]
          refine wpAnyH_take (i := 23) (v := ?vv53) (by rfl) (by kernel_rfl) (by kernel_rfl) (by kernel_rfl) (by intro _ _ _ h; exact h) (Or.inl ⟨by kernel_rfl, ?hy53⟩) (by assumption) ?rest53
          case hy53 =>
            intro w' hSw
            have hSw : Keeps _ w' := hSw
            clear hSw
            go_simp
            try with_reducible rfl
          change wpAnyH _ _ _ _ _ _ _ (Act.put _ (some 127) _) _
          try simp only [Act.put, List.setIfInBounds_toArray, List.set_cons_zero, List.set_cons_succ]
          refine wpAnyH_take (i := 24) (v := ?vv54) (by rfl) (by kernel_rfl) (by kernel_rfl) (by kernel_rfl) (by intro _ _ _ h; exact h) (Or.inl ⟨by kernel_rfl, ?hy54⟩) (by assumption) ?rest54
          case hy54 =>
            intro w' hSw
            have hSw : Keeps _ w' := hSw
            clear hSw
            go_simp
            try with_reducible rfl
          change wpAnyH _ _ _ _ _ _ _ (Act.put _ (some 128) _) _
          try simp only [Act.put, List.setIfInBounds_toArray, List.set_cons_zero, List.set_cons_succ]
          refine wpAnyH_take (i := 25) (v := ?vv55) (by rfl) (by kernel_rfl) (by kernel_rfl) (by kernel_rfl) (by intro _ _ _ h; exact h) (Or.inl ⟨by kernel_rfl, ?hy55⟩) (by assumption) ?rest55
          case hy55 =>
            intro w' hSw
            have hSw : Keeps _ w' := hSw
            have hx := keep1 hSw hcell
            clear hSw
            go_simp
            try with_reducible rfl
          change wpAnyH _ _ _ _ _ _ _ (Act.put _ (some 129) _) _
          try simp only [Act.put, List.setIfInBounds_toArray, List.set_cons_zero, List.set_cons_succ]
          refine wpAnyH_take (i := 26) (v := ?vv56) (by rfl) (by kernel_rfl) (by kernel_rfl) (by kernel_rfl) (by intro _ _ _ h; exact h) (Or.inl ⟨by kernel_rfl, ?hy56⟩) (by assumption) ?rest56
          case hy56 =>
            intro w' hSw
            have hSw : Keeps _ w' := hSw
            have hc := str_at' (HPay.out.keeps hSw)
            clear hSw
            go_simp
            try with_reducible rfl
          change wpAnyH _ _ _ _ _ _ _ (Act.put _ (some 130) _) _
          try simp only [Act.put, List.setIfInBounds_toArray, List.set_cons_zero, List.set_cons_succ]
          refine wpAnyH_take (i := 27) (v := ?vv57) (by rfl) (by kernel_rfl) (by kernel_rfl) (by kernel_rfl) (by intro _ _ _ h; exact h) (Or.inl ⟨by kernel_rfl, ?hy57⟩) (by assumption) ?rest57
          case hy57 =>
            intro w' hSw
            have hSw : Keeps _ w' := hSw
            clear hSw
            go_simp
            try with_reducible rfl
          change wpAnyH _ _ _ _ _ _ _ (Act.put _ (some 131) _) _
          try simp only [Act.put, List.setIfInBounds_toArray, List.set_cons_zero, List.set_cons_succ]
          refine wpAnyH_take (i := 28) (v := ?vv58) (by rfl) (by kernel_rfl) (by kernel_rfl) (by kernel_rfl) (by intro _ _ _ h; exact h) (Or.inl ⟨by kernel_rfl, ?hy58⟩) (by assumption) ?rest58
          case hy58 =>
            intro w' hSw
            have hSw : Keeps _ w' := hSw
            clear hSw
            go_simp
            try with_reducible rfl
          change wpAnyH _ _ _ _ _ _ _ (Act.put _ (some 132) _) _
          try simp only [Act.put, List.setIfInBounds_toArray, List.set_cons_zero, List.set_cons_succ]
          refine wpAnyH_done (by kernel_rfl) ?_ _
          refine NoPanic.normal ?_
          go_wp2_with fail
          go_roundw
          case rel => exact ⟨k + 1, by simp, by omega, HKj.out.trans hHeld⟩
          case measure =>
            simp only [intOf]
            omega
        · go_wp2_with fail
          go_roundw
          case rel => exact ⟨2, rfl, by omega, HK8.out.trans HKj.out⟩
          case measure => simp [intOf]
      
    · go_wp2_with fail
      go_ret
      exact ⟨rfl, HK3.out.trans HKr.out⟩
end Frm
end Go.Proofs.Ytfmjlgkbohidjaa
