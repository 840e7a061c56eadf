/- pigeonholeref17.Same: two lists of transactions that tell the same. -/
import Derived.Test.YtchjncnolmiejaaK21
namespace Go.Proofs.Ytchjncnolmiejaa
open Go.RowKit
namespace Txl
open Oct Frm
/-- transactions that are read alone -/
structure TxsR (w : World) (v : Value) (X : List TxX) : Prop where
  row : RowS w 2 v X.length (X.flatMap txC)
  its : ∀ x ∈ X, Row w x.2.1 (x.2.2.map (·.1))
  pay : ∀ x ∈ X, ∀ y ∈ x.2.2, Row w y.1 (y.2.map u8v)
section
variable {w w' : World} {base : Nat} {v : Value} {X : List TxX}
theorem TxsAt.r (h : TxsAt w base v X) : TxsR w v X := ⟨rowS_of h.own, fun x hx => (h.its x hx).row, fun x hx y hy => (h.pay x hx y hy).row⟩
theorem TxsR.keeps (h : TxsR w v X) (k : Keeps w w') : TxsR w' v X := ⟨h.row.keeps k, fun x hx => (h.its x hx).keeps k, fun x hx y hy => (h.pay x hx y hy).keeps k⟩
theorem TxsR.form (h : TxsR w v X) : ∃ p cap, v = .slice p X.length cap ∧ X.length ≤ cap ∧ cap ≤ 9223372036854775807 := h.row.form
theorem TxsR.one (h : TxsR w v X) {j : Nat} (hj : j < X.length) : ∃ b off cap, v = .slice (some ⟨b, off, none⟩) X.length cap ∧ w.cell? ⟨b, off + j * 2, none⟩ = some (.int .i64 (X[j].1 : Int)) ∧ w.cell? ⟨b, off + j * 2 + 1, none⟩ = some X[j].2.1 := by
  obtain ⟨b, off, cap, hv, -, -, hc⟩ := RowS.at_ h.row (by omega)
  refine ⟨b, off, cap, hv, ?_, ?_⟩
  · have := hc.out (j * 2 + 0) _ (by rw [flat_get txC_len X j 0 _ (List.getElem?_eq_getElem hj) (by omega)]; rfl)
    exact this
  · rw [Nat.add_assoc]
    exact hc.out (j * 2 + 1) _ (by rw [flat_get txC_len X j 1 _ (List.getElem?_eq_getElem hj) (by omega)]; rfl)
end
set_option maxRecDepth 100000 in
set_option maxHeartbeats 4000000 in
theorem same17_any (v1 v2 : Value) (X1 X2 : List TxX) (w : World) (h1 : TxsR w v1 X1) (h2 : TxsR w v2 X2) (he : X1.map txP = X2.map txP) (hn : X1.length ≤ 1099511627776) : Calls Try.prog 39 #[v1, v2] w fun e w' => e = .returned (.bool true) ∧ Keeps w w' := by
  have hl : X1.length = X2.length := by have := congrArg List.length he; simpa using this
  obtain ⟨p1, c1, rfl, -, -⟩ := h1.form
  obtain ⟨p2, c2, rfl, -, -⟩ := h2.form
  have H1 := Lib.hid h1
  have H2 := Lib.hid h2
  have HE := Lib.hid (show ∀ j (h1 : j < X1.length) (h2 : j < X2.length), txP X1[j] = txP X2[j] from fun j h1 h2 => by
    have h := congrArg (fun l => l[j]?) he
    simp only [List.getElem?_map, List.getElem?_eq_getElem h1, List.getElem?_eq_getElem h2, Option.map_some, Option.some.injEq] at h
    exact h)
  have HL := Lib.hid hl
  clear h1 h2 he
  rw [← hl]
  clear hl
  go_enter Try.func39, Try.ntmps39
  go_wp2_with fail
  go_loopw [5] (fun i wr => ∃ j : Nat, i = .int .i64 j ∧ j ≤ X1.length ∧ Hid (Keeps w wr)) (fun i _ => X1.length - (intOf i).toNat)
  case atStart => exact ⟨0, rfl, Nat.zero_le _, Lib.hid (Keeps.refl _)⟩
  case round =>
    obtain ⟨j, rfl, hj, HK⟩ := hrel
    by_cases hlt : j < X1.length
    · have hlt2 : j < X2.length := by have := HL.out; omega
      obtain ⟨b1, o1, k1, hv1, ha0, ha1⟩ := (H1.out.keeps HK.out).one hlt
      obtain ⟨b2, o2, k2, hv2, hb0, hb1⟩ := (H2.out.keeps HK.out).one hlt2
      simp only [Value.slice.injEq] at hv1
      obtain ⟨rfl, -, rfl⟩ := hv1
      rw [← HL.out] at hv2
      simp only [Value.slice.injEq] at hv2
      obtain ⟨rfl, -, rfl⟩ := hv2
      have hee := HE.out j hlt hlt2
      have HI1 := Lib.hid ((H1.out.its _ (List.getElem_mem hlt)).keeps HK.out)
      have HI2 := Lib.hid ((H2.out.its _ (List.getElem_mem hlt2)).keeps HK.out)
      have HP1 := Lib.hid (fun y hy => (H1.out.pay _ (List.getElem_mem hlt) y hy).keeps HK.out)
      have HP2 := Lib.hid (fun y hy => (H2.out.pay _ (List.getElem_mem hlt2) y hy).keeps HK.out)
      generalize X1[j] = x1 at *
      generalize X2[j] = x2 at *
      obtain ⟨n1, iv1, is1⟩ := x1
      obtain ⟨n2, iv2, is2⟩ := x2
      simp only [txP, Prod.mk.injEq] at hee
      obtain ⟨hen, hei⟩ := hee
      simp only at hen hei ha0 ha1 hb0 hb1 HI1 HI2 HP1 HP2
      subst hen
      have hil : is1.length = is2.length := by have := congrArg List.length hei; simpa using this
      have HEI := Lib.hid (show ∀ i (h1 : i < is1.length) (h2 : i < is2.length), is1[i].2 = is2[i].2 from fun i h1 h2 => by
        have h := congrArg (fun l => l[i]?) hei
        simp only [List.getElem?_map, List.getElem?_eq_getElem h1, List.getElem?_eq_getElem h2, Option.map_some, Option.some.injEq] at h
        exact h)
      obtain ⟨q1, d1, hq1, hg1, hg2⟩ := HI1.out.form
      obtain ⟨q2, d2, hq2, -, -⟩ := HI2.out.form
      rw [List.length_map] at hq1 hq2 hg1
      unfold maxLen at hg2
      rw [← hil] at hq2
      have HIL := Lib.hid hil
      subst hq1 hq2
      have hji : (j : Int) < (X1.length : Int) := by omega
      clear hei hlt2 hil
      go_upto_region 6 with fail
      refine wp_region_noPanic ?_
      refine wp_region_held_drew (S := fun w' => Keeps (wr) w') (by kernel_rfl) ((Keeps.refl _).drew) (fun _ => ?_)
      have hHeld : Keeps (wr) (wr).drew := (Keeps.refl _).drew
      refine wpAnyH_take (i := 0) (v := ?vv1) (by rfl) (by kernel_rfl) (by kernel_rfl) (by kernel_rfl) (by intro _ _ _ h; exact h) (Or.inl ⟨by kernel_rfl, ?hy1⟩) (by assumption) ?rest1
      case hy1 =>
        intro w' hSw
        have hSw : Keeps _ w' := hSw
        clear hSw
        go_simp
        try with_reducible rfl
      change wpAnyH _ _ _ _ _ _ _ (Act.put _ (some 18) _) _
      try simp only [Act.put, List.setIfInBounds_toArray, List.set_cons_zero, List.set_cons_succ]
      refine wpAnyH_take (i := 1) (v := ?vv2) (by rfl) (by kernel_rfl) (by kernel_rfl) (by kernel_rfl) (by intro _ _ _ h; exact h) (Or.inl ⟨by kernel_rfl, ?hy2⟩) (by assumption) ?rest2
      case hy2 =>
        intro w' hSw
        have hSw : Keeps _ w' := hSw
        clear hSw
        go_simp
        try with_reducible rfl
      change wpAnyH _ _ _ _ _ _ _ (Act.put _ (some 19) _) _
      try simp only [Act.put, List.setIfInBounds_toArray, List.set_cons_zero, List.set_cons_succ]
      refine wpAnyH_take (i := 2) (v := ?vv3) (by rfl) (by kernel_rfl) (by kernel_rfl) (by kernel_rfl) (by intro _ _ _ h; exact h) (Or.inl ⟨by kernel_rfl, ?hy3⟩) (by assumption) ?rest3
      case hy3 =>
        intro w' hSw
        have hSw : Keeps _ w' := hSw
        clear hSw
        go_simp
        try with_reducible rfl
      change wpAnyH _ _ _ _ _ _ _ (Act.put _ (some 20) _) _
      try simp only [Act.put, List.setIfInBounds_toArray, List.set_cons_zero, List.set_cons_succ]
      refine wpAnyH_take (i := 3) (v := ?vv4) (by rfl) (by kernel_rfl) (by kernel_rfl) (by kernel_rfl) (by intro _ _ _ h; exact h) (Or.inl ⟨by kernel_rfl, ?hy4⟩) (by assumption) ?rest4
      case hy4 =>
        intro w' hSw
        have hSw : Keeps _ w' := hSw
        clear hSw
        go_simp
        try with_reducible rfl
      change wpAnyH _ _ _ _ _ _ _ (Act.put _ (some 21) _) _
      try simp only [Act.put, List.setIfInBounds_toArray, List.set_cons_zero, List.set_cons_succ]
      refine wpAnyH_take (i := 4) (v := ?vv5) (by rfl) (by kernel_rfl) (by kernel_rfl) (by kernel_rfl) (by intro _ _ _ h; exact h) (Or.inl ⟨by kernel_rfl, ?hy5⟩) (by assumption) ?rest5
      case hy5 =>
        intro w' hSw
        have hSw : Keeps _ w' := hSw
        have hx := keep1 hSw ha0
        clear hSw
        go_simp
        try with_reducible rfl
      change wpAnyH _ _ _ _ _ _ _ (Act.put _ (some 22) _) _
      try simp only [Act.put, List.setIfInBounds_toArray, List.set_cons_zero, List.set_cons_succ]
      refine wpAnyH_take (i := 5) (v := ?vv6) (by rfl) (by kernel_rfl) (by kernel_rfl) (by kernel_rfl) (by intro _ _ _ h; exact h) (Or.inl ⟨by kernel_rfl, ?hy6⟩) (by assumption) ?rest6
      case hy6 =>
        intro w' hSw
        have hSw : Keeps _ w' := hSw
        clear hSw
        go_simp
        try with_reducible rfl
      change wpAnyH _ _ _ _ _ _ _ (Act.put _ (some 23) _) _
      try simp only [Act.put, List.setIfInBounds_toArray, List.set_cons_zero, List.set_cons_succ]
      refine wpAnyH_take (i := 6) (v := ?vv7) (by rfl) (by kernel_rfl) (by kernel_rfl) (by kernel_rfl) (by intro _ _ _ h; exact h) (Or.inl ⟨by kernel_rfl, ?hy7⟩) (by assumption) ?rest7
      case hy7 =>
        intro w' hSw
        have hSw : Keeps _ w' := hSw
        clear hSw
        go_simp
        try with_reducible rfl
      change wpAnyH _ _ _ _ _ _ _ (Act.put _ (some 24) _) _
      try simp only [Act.put, List.setIfInBounds_toArray, List.set_cons_zero, List.set_cons_succ]
      refine wpAnyH_take (i := 7) (v := ?vv8) (by rfl) (by kernel_rfl) (by kernel_rfl) (by kernel_rfl) (by intro _ _ _ h; exact h) (Or.inl ⟨by kernel_rfl, ?hy8⟩) (by assumption) ?rest8
      case hy8 =>
        intro w' hSw
        have hSw : Keeps _ w' := hSw
        clear hSw
        go_simp
        try with_reducible rfl
      change wpAnyH _ _ _ _ _ _ _ (Act.put _ (some 25) _) _
      try simp only [Act.put, List.setIfInBounds_toArray, List.set_cons_zero, List.set_cons_succ]
      refine wpAnyH_take (i := 8) (v := ?vv9) (by rfl) (by kernel_rfl) (by kernel_rfl) (by kernel_rfl) (by intro _ _ _ h; exact h) (Or.inl ⟨by kernel_rfl, ?hy9⟩) (by assumption) ?rest9
      case hy9 =>
        intro w' hSw
        have hSw : Keeps _ w' := hSw
        clear hSw
        go_simp
        try with_reducible rfl
      change wpAnyH _ _ _ _ _ _ _ (Act.put _ (some 26) _) _
      try simp only [Act.put, List.setIfInBounds_toArray, List.set_cons_zero, List.set_cons_succ]
      refine wpAnyH_take (i := 9) (v := ?vv10) (by rfl) (by kernel_rfl) (by kernel_rfl) (by kernel_rfl) (by intro _ _ _ h; exact h) (Or.inl ⟨by kernel_rfl, ?hy10⟩) (by assumption) ?rest10
      case hy10 =>
        intro w' hSw
        have hSw : Keeps _ w' := hSw
        have hx := keep1 hSw hb0
        clear hSw
        go_simp
        try with_reducible rfl
      change wpAnyH _ _ _ _ _ _ _ (Act.put _ (some 27) _) _
      try simp only [Act.put, List.setIfInBounds_toArray, List.set_cons_zero, List.set_cons_succ]
      refine wpAnyH_take (i := 10) (v := ?vv11) (by rfl) (by kernel_rfl) (by kernel_rfl) (by kernel_rfl) (by intro _ _ _ h; exact h) (Or.inl ⟨by kernel_rfl, ?hy11⟩) (by assumption) ?rest11
      case hy11 =>
        intro w' hSw
        have hSw : Keeps _ w' := hSw
        clear hSw
        go_simp
        try with_reducible rfl
      change wpAnyH _ _ _ _ _ _ _ (Act.put _ (some 28) _) _
      try simp only [Act.put, List.setIfInBounds_toArray, List.set_cons_zero, List.set_cons_succ]
      refine wpAnyH_take (i := 11) (v := ?vv12) (by rfl) (by kernel_rfl) (by kernel_rfl) (by kernel_rfl) (by intro _ _ _ h; exact h) (Or.inl ⟨by kernel_rfl, ?hy12⟩) (by assumption) ?rest12
      case hy12 =>
        intro w' hSw
        have hSw : Keeps _ w' := hSw
        clear hSw
        go_simp
        try with_reducible rfl
      change wpAnyH _ _ _ _ _ _ _ (Act.put _ (some 29) _) _
      try simp only [Act.put, List.setIfInBounds_toArray, List.set_cons_zero, List.set_cons_succ]
      refine wpAnyH_take (i := 12) (v := ?vv13) (by rfl) (by kernel_rfl) (by kernel_rfl) (by kernel_rfl) (by intro _ _ _ h; exact h) (Or.inl ⟨by kernel_rfl, ?hy13⟩) (by assumption) ?rest13
      case hy13 =>
        intro w' hSw
        have hSw : Keeps _ w' := hSw
        clear hSw
        go_simp
        try with_reducible rfl
      change wpAnyH _ _ _ _ _ _ _ (Act.put _ (some 30) _) _
      try simp only [Act.put, List.setIfInBounds_toArray, List.set_cons_zero, List.set_cons_succ]
      refine wpAnyH_take (i := 13) (v := ?vv14) (by rfl) (by kernel_rfl) (by kernel_rfl) (by kernel_rfl) (by intro _ _ _ h; exact h) (Or.inl ⟨by kernel_rfl, ?hy14⟩) (by assumption) ?rest14
      case hy14 =>
        intro w' hSw
        have hSw : Keeps _ w' := hSw
        clear hSw
        go_simp
        try with_reducible rfl
      change wpAnyH _ _ _ _ _ _ _ (Act.put _ (some 31) _) _
      try simp only [Act.put, List.setIfInBounds_toArray, List.set_cons_zero, List.set_cons_succ]
      refine wpAnyH_take (i := 14) (v := ?vv15) (by rfl) (by kernel_rfl) (by kernel_rfl) (by kernel_rfl) (by intro _ _ _ h; exact h) (Or.inl ⟨by kernel_rfl, ?hy15⟩) (by assumption) ?rest15
      case hy15 =>
        intro w' hSw
        have hSw : Keeps _ w' := hSw
        clear hSw
        go_simp
        try with_reducible rfl
      change wpAnyH _ _ _ _ _ _ _ (Act.put _ (some 32) _) _
      try simp only [Act.put, List.setIfInBounds_toArray, List.set_cons_zero, List.set_cons_succ]
      refine wpAnyH_take (i := 15) (v := ?vv16) (by rfl) (by kernel_rfl) (by kernel_rfl) (by kernel_rfl) (by intro _ _ _ h; exact h) (Or.inl ⟨by kernel_rfl, ?hy16⟩) (by assumption) ?rest16
      case hy16 =>
        intro w' hSw
        have hSw : Keeps _ w' := hSw
        clear hSw
        go_simp
        try with_reducible rfl
      change wpAnyH _ _ _ _ _ _ _ (Act.put _ (some 33) _) _
      try simp only [Act.put, List.setIfInBounds_toArray, List.set_cons_zero, List.set_cons_succ]
      refine wpAnyH_take (i := 16) (v := ?vv17) (by rfl) (by kernel_rfl) (by kernel_rfl) (by kernel_rfl) (by intro _ _ _ h; exact h) (Or.inl ⟨by kernel_rfl, ?hy17⟩) (by assumption) ?rest17
      case hy17 =>
        intro w' hSw
        have hSw : Keeps _ w' := hSw
        have hx := keep1 hSw ha1
        clear hSw
        go_simp
        try with_reducible rfl
      change wpAnyH _ _ _ _ _ _ _ (Act.put _ (some 34) _) _
      try simp only [Act.put, List.setIfInBounds_toArray, List.set_cons_zero, List.set_cons_succ]
      refine wpAnyH_take (i := 17) (v := ?vv18) (by rfl) (by kernel_rfl) (by kernel_rfl) (by kernel_rfl) (by intro _ _ _ h; exact h) (Or.inl ⟨by kernel_rfl, ?hy18⟩) (by assumption) ?rest18
      case hy18 =>
        intro w' hSw
        have hSw : Keeps _ w' := hSw
        clear hSw
        go_simp
        try with_reducible rfl
      change wpAnyH _ _ _ _ _ _ _ (Act.put _ (some 35) _) _
      try simp only [Act.put, List.setIfInBounds_toArray, List.set_cons_zero, List.set_cons_succ]
      refine wpAnyH_take (i := 18) (v := ?vv19) (by rfl) (by kernel_rfl) (by kernel_rfl) (by kernel_rfl) (by intro _ _ _ h; exact h) (Or.inl ⟨by kernel_rfl, ?hy19⟩) (by assumption) ?rest19
      case hy19 =>
        intro w' hSw
        have hSw : Keeps _ w' := hSw
        clear hSw
        go_simp
        try with_reducible rfl
      change wpAnyH _ _ _ _ _ _ _ (Act.put _ (some 36) _) _
      try simp only [Act.put, List.setIfInBounds_toArray, List.set_cons_zero, List.set_cons_succ]
      refine wpAnyH_take (i := 19) (v := ?vv20) (by rfl) (by kernel_rfl) (by kernel_rfl) (by kernel_rfl) (by intro _ _ _ h; exact h) (Or.inl ⟨by kernel_rfl, ?hy20⟩) (by assumption) ?rest20
      case hy20 =>
        intro w' hSw
        have hSw : Keeps _ w' := hSw
        clear hSw
        go_simp
        try with_reducible rfl
      change wpAnyH _ _ _ _ _ _ _ (Act.put _ (some 37) _) _
      try simp only [Act.put, List.setIfInBounds_toArray, List.set_cons_zero, List.set_cons_succ]
      refine wpAnyH_take (i := 20) (v := ?vv21) (by rfl) (by kernel_rfl) (by kernel_rfl) (by kernel_rfl) (by intro _ _ _ h; exact h) (Or.inl ⟨by kernel_rfl, ?hy21⟩) (by assumption) ?rest21
      case hy21 =>
        intro w' hSw
        have hSw : Keeps _ w' := hSw
        clear hSw
        go_simp
        try with_reducible rfl
      change wpAnyH _ _ _ _ _ _ _ (Act.put _ (some 38) _) _
      try simp only [Act.put, List.setIfInBounds_toArray, List.set_cons_zero, List.set_cons_succ]
      refine wpAnyH_take (i := 21) (v := ?vv22) (by rfl) (by kernel_rfl) (by kernel_rfl) (by kernel_rfl) (by intro _ _ _ h; exact h) (Or.inl ⟨by kernel_rfl, ?hy22⟩) (by assumption) ?rest22
      case hy22 =>
        intro w' hSw
        have hSw : Keeps _ w' := hSw
        clear hSw
        go_simp
        try with_reducible rfl
      change wpAnyH _ _ _ _ _ _ _ (Act.put _ (some 39) _) _
      try simp only [Act.put, List.setIfInBounds_toArray, List.set_cons_zero, List.set_cons_succ]
      refine wpAnyH_take (i := 22) (v := ?vv23) (by rfl) (by kernel_rfl) (by kernel_rfl) (by kernel_rfl) (by intro _ _ _ h; exact h) (Or.inl ⟨by kernel_rfl, ?hy23⟩) (by assumption) ?rest23
      case hy23 =>
        intro w' hSw
        have hSw : Keeps _ w' := hSw
        have hx := keep1 hSw hb1
        clear hSw
        go_simp
        try with_reducible rfl
      change wpAnyH _ _ _ _ _ _ _ (Act.put _ (some 40) _) _
      try simp only [Act.put, List.setIfInBounds_toArray, List.set_cons_zero, List.set_cons_succ]
      refine wpAnyH_take (i := 23) (v := ?vv24) (by rfl) (by kernel_rfl) (by kernel_rfl) (by kernel_rfl) (by intro _ _ _ h; exact h) (Or.inl ⟨by kernel_rfl, ?hy24⟩) (by assumption) ?rest24
      case hy24 =>
        intro w' hSw
        have hSw : Keeps _ w' := hSw
        clear hSw
        go_simp
        try with_reducible rfl
      change wpAnyH _ _ _ _ _ _ _ (Act.put _ (some 41) _) _
      try simp only [Act.put, List.setIfInBounds_toArray, List.set_cons_zero, List.set_cons_succ]
      refine wpAnyH_take (i := 24) (v := ?vv25) (by rfl) (by kernel_rfl) (by kernel_rfl) (by kernel_rfl) (by intro _ _ _ h; exact h) (Or.inl ⟨by kernel_rfl, ?hy25⟩) (by assumption) ?rest25
      case hy25 =>
        intro w' hSw
        have hSw : Keeps _ w' := hSw
        clear hSw
        go_simp
        try with_reducible rfl
      change wpAnyH _ _ _ _ _ _ _ (Act.put _ (some 42) _) _
      try simp only [Act.put, List.setIfInBounds_toArray, List.set_cons_zero, List.set_cons_succ]
      refine wpAnyH_take (i := 25) (v := ?vv26) (by rfl) (by kernel_rfl) (by kernel_rfl) (by kernel_rfl) (by intro _ _ _ h; exact h) (Or.inl ⟨by kernel_rfl, ?hy26⟩) (by assumption) ?rest26
      case hy26 =>
        intro w' hSw
        have hSw : Keeps _ w' := hSw
        clear hSw
        go_simp
        try with_reducible rfl
      change wpAnyH _ _ _ _ _ _ _ (Act.put _ (some 43) _) _
      try simp only [Act.put, List.setIfInBounds_toArray, List.set_cons_zero, List.set_cons_succ]
      refine wpAnyH_done (by kernel_rfl) ?_ _
      refine NoPanic.normal ?_
      have HKd := Lib.hid (HK.out.trans (Keeps.refl wr).drew)
      have HA1 := Lib.hid (keep1 (Keeps.refl wr).drew ha1)
      have HB1 := Lib.hid (keep1 (Keeps.refl wr).drew hb1)
      have HI1 := Lib.hid (HI1.out.drew)
      have HI2 := Lib.hid (HI2.out.drew)
      have HP1 := Lib.hid (fun y hy => (HP1.out y hy).drew)
      have HP2 := Lib.hid (fun y hy => (HP2.out y hy).drew)
      clear hHeld ha0 hb0 ha1 hb1
      generalize wr.drew = wd at *
      go_wp2_with fail
      go_loopw [6] (fun iv wx => ∃ i : Nat, iv = .int .i64 (i : Int) ∧ i ≤ is1.length ∧ Hid (Keeps wd wx)) (fun iv _ => is1.length - (intOf iv).toNat)
      case atStart => exact ⟨0, rfl, Nat.zero_le _, Lib.hid (Keeps.refl _)⟩
      case round =>
        obtain ⟨i, rfl, hi, HX⟩ := hrel
        have ha1 := keep1 HX.out HA1.out
        have hb1 := keep1 HX.out HB1.out
        by_cases hlti : i < is1.length
        · have hlti2 : i < is2.length := by have := HIL.out; omega
          obtain ⟨s1, f1, e1, hs1, hc1⟩ := row_cells HI1.out (by rw [List.length_map]; omega)
          obtain ⟨s2, f2, e2, hs2, hc2⟩ := row_cells HI2.out (by rw [List.length_map]; omega)
          rw [List.length_map] at hs1 hs2
          simp only [Value.slice.injEq] at hs1 hs2
          obtain ⟨rfl, -, rfl⟩ := hs1
          obtain ⟨rfl, -, rfl⟩ := hs2
          have hx1 := hc1.out i is1[i].1 (by simp [hlti])
          have hx2 := hc2.out i is2[i].1 (by simp [hlti2])
          have HY1 := Lib.hid (HP1.out _ (List.getElem_mem hlti))
          have HY2 := Lib.hid (HP2.out _ (List.getElem_mem hlti2))
          have hee := HEI.out i hlti hlti2
          rw [hee] at HY1
          have hii : (i : Int) < (is1.length : Int) := by omega
          generalize is1[i] = y1 at *
          generalize is2[i] = y2 at *
          obtain ⟨yv1, yl1⟩ := y1
          obtain ⟨yv2, yl2⟩ := y2
          simp only at hx1 hx2 HY1 HY2
          obtain ⟨t1, u1, hyv1, -, -⟩ := (show Row wd yv1 (yl2.map u8v) from HY1.out).formB
          obtain ⟨t2, u2, hyv2, -, -⟩ := (show Row wd yv2 (yl2.map u8v) from HY2.out).formB
          subst hyv1 hyv2
          have heq : ((bstr yl2).toList == (bstr yl2).toList) = true := by simp
          clear hc1 hc2 hlti2 hee
          go_upto_region 11 with fail
          refine wp_region_noPanic ?_
          refine wp_region_held_drew (S := fun w' => Keeps (wr) w') (by kernel_rfl) ((Keeps.refl _).drew) (fun _ => ?_)
          have hHeld : Keeps (wr) (wr).drew := (Keeps.refl _).drew
          refine wpAnyH_take (i := 0) (v := ?vv27) (by rfl) (by kernel_rfl) (by kernel_rfl) (by kernel_rfl) (by intro _ _ _ h; exact h) (Or.inl ⟨by kernel_rfl, ?hy27⟩) (by assumption) ?rest27
          case hy27 =>
            intro w' hSw
            have hSw : Keeps _ w' := hSw
            clear hSw
            go_simp
            try with_reducible rfl
          change wpAnyH _ _ _ _ _ _ _ (Act.put _ (some 54) _) _
          try simp only [Act.put, List.setIfInBounds_toArray, List.set_cons_zero, List.set_cons_succ]
          refine wpAnyH_take (i := 1) (v := ?vv28) (by rfl) (by kernel_rfl) (by kernel_rfl) (by kernel_rfl) (by intro _ _ _ h; exact h) (Or.inl ⟨by kernel_rfl, ?hy28⟩) (by assumption) ?rest28
          case hy28 =>
            intro w' hSw
            have hSw : Keeps _ w' := hSw
            clear hSw
            go_simp
            try with_reducible rfl
          change wpAnyH _ _ _ _ _ _ _ (Act.put _ (some 55) _) _
          try simp only [Act.put, List.setIfInBounds_toArray, List.set_cons_zero, List.set_cons_succ]
          refine wpAnyH_take (i := 2) (v := ?vv29) (by rfl) (by kernel_rfl) (by kernel_rfl) (by kernel_rfl) (by intro _ _ _ h; exact h) (Or.inl ⟨by kernel_rfl, ?hy29⟩) (by assumption) ?rest29
          case hy29 =>
            intro w' hSw
            have hSw : Keeps _ w' := hSw
            clear hSw
            go_simp
            try with_reducible rfl
          change wpAnyH _ _ _ _ _ _ _ (Act.put _ (some 56) _) _
          try simp only [Act.put, List.setIfInBounds_toArray, List.set_cons_zero, List.set_cons_succ]
          refine wpAnyH_take (i := 3) (v := ?vv30) (by rfl) (by kernel_rfl) (by kernel_rfl) (by kernel_rfl) (by intro _ _ _ h; exact h) (Or.inl ⟨by kernel_rfl, ?hy30⟩) (by assumption) ?rest30
          case hy30 =>
            intro w' hSw
            have hSw : Keeps _ w' := hSw
            clear hSw
            go_simp
            try with_reducible rfl
          change wpAnyH _ _ _ _ _ _ _ (Act.put _ (some 57) _) _
          try simp only [Act.put, List.setIfInBounds_toArray, List.set_cons_zero, List.set_cons_succ]
          refine wpAnyH_take (i := 4) (v := ?vv31) (by rfl) (by kernel_rfl) (by kernel_rfl) (by kernel_rfl) (by intro _ _ _ h; exact h) (Or.inl ⟨by kernel_rfl, ?hy31⟩) (by assumption) ?rest31
          case hy31 =>
            intro w' hSw
            have hSw : Keeps _ w' := hSw
            have hx := keep1 hSw ha1
            clear hSw
            go_simp
            try with_reducible rfl
          change wpAnyH _ _ _ _ _ _ _ (Act.put _ (some 58) _) _
          try simp only [Act.put, List.setIfInBounds_toArray, List.set_cons_zero, List.set_cons_succ]
          refine wpAnyH_take (i := 5) (v := ?vv32) (by rfl) (by kernel_rfl) (by kernel_rfl) (by kernel_rfl) (by intro _ _ _ h; exact h) (Or.inl ⟨by kernel_rfl, ?hy32⟩) (by assumption) ?rest32
          case hy32 =>
            intro w' hSw
            have hSw : Keeps _ w' := hSw
            clear hSw
            go_simp
            try with_reducible rfl
          change wpAnyH _ _ _ _ _ _ _ (Act.put _ (some 59) _) _
          try simp only [Act.put, List.setIfInBounds_toArray, List.set_cons_zero, List.set_cons_succ]
          refine wpAnyH_take (i := 6) (v := ?vv33) (by rfl) (by kernel_rfl) (by kernel_rfl) (by kernel_rfl) (by intro _ _ _ h; exact h) (Or.inl ⟨by kernel_rfl, ?hy33⟩) (by assumption) ?rest33
          case hy33 =>
            intro w' hSw
            have hSw : Keeps _ w' := hSw
            clear hSw
            go_simp
            try with_reducible rfl
          change wpAnyH _ _ _ _ _ _ _ (Act.put _ (some 60) _) _
          try simp only [Act.put, List.setIfInBounds_toArray, List.set_cons_zero, List.set_cons_succ]
          refine wpAnyH_take (i := 7) (v := ?vv34) (by rfl) (by kernel_rfl) (by kernel_rfl) (by kernel_rfl) (by intro _ _ _ h; exact h) (Or.inl ⟨by kernel_rfl, ?hy34⟩) (by assumption) ?rest34
          case hy34 =>
            intro w' hSw
            have hSw : Keeps _ w' := hSw
            have hx := keep1 (HX.out.trans hSw) hx1
            clear hSw
            go_simp
            try with_reducible rfl
          change wpAnyH _ _ _ _ _ _ _ (Act.put _ (some 61) _) _
          try simp only [Act.put, List.setIfInBounds_toArray, List.set_cons_zero, List.set_cons_succ]
          refine wpAnyH_take (i := 8) (v := ?vv35) (by rfl) (by kernel_rfl) (by kernel_rfl) (by kernel_rfl) (by intro _ _ _ h; exact h) (Or.inl ⟨by kernel_rfl, ?hy35⟩) (by assumption) ?rest35
          case hy35 =>
            intro w' hSw
            have hSw : Keeps _ w' := hSw
            have hc := str_at' (HY1.out.keeps (HX.out.trans hSw))
            clear hSw
            go_simp
            try with_reducible rfl
          change wpAnyH _ _ _ _ _ _ _ (Act.put _ (some 62) _) _
          try simp only [Act.put, List.setIfInBounds_toArray, List.set_cons_zero, List.set_cons_succ]
          refine wpAnyH_take (i := 9) (v := ?vv36) (by rfl) (by kernel_rfl) (by kernel_rfl) (by kernel_rfl) (by intro _ _ _ h; exact h) (Or.inl ⟨by kernel_rfl, ?hy36⟩) (by assumption) ?rest36
          case hy36 =>
            intro w' hSw
            have hSw : Keeps _ w' := hSw
            clear hSw
            go_simp
            try with_reducible rfl
          change wpAnyH _ _ _ _ _ _ _ (Act.put _ (some 63) _) _
          try simp only [Act.put, List.setIfInBounds_toArray, List.set_cons_zero, List.set_cons_succ]
          refine wpAnyH_take (i := 10) (v := ?vv37) (by rfl) (by kernel_rfl) (by kernel_rfl) (by kernel_rfl) (by intro _ _ _ h; exact h) (Or.inl ⟨by kernel_rfl, ?hy37⟩) (by assumption) ?rest37
          case hy37 =>
            intro w' hSw
            have hSw : Keeps _ w' := hSw
            clear hSw
            go_simp
            try with_reducible rfl
          change wpAnyH _ _ _ _ _ _ _ (Act.put _ (some 64) _) _
          try simp only [Act.put, List.setIfInBounds_toArray, List.set_cons_zero, List.set_cons_succ]
          refine wpAnyH_take (i := 11) (v := ?vv38) (by rfl) (by kernel_rfl) (by kernel_rfl) (by kernel_rfl) (by intro _ _ _ h; exact h) (Or.inl ⟨by kernel_rfl, ?hy38⟩) (by assumption) ?rest38
          case hy38 =>
            intro w' hSw
            have hSw : Keeps _ w' := hSw
            clear hSw
            go_simp
            try with_reducible rfl
          change wpAnyH _ _ _ _ _ _ _ (Act.put _ (some 65) _) _
          try simp only [Act.put, List.setIfInBounds_toArray, List.set_cons_zero, List.set_cons_succ]
          refine wpAnyH_take (i := 12) (v := ?vv39) (by rfl) (by kernel_rfl) (by kernel_rfl) (by kernel_rfl) (by intro _ _ _ h; exact h) (Or.inl ⟨by kernel_rfl, ?hy39⟩) (by assumption) ?rest39
          case hy39 =>
            intro w' hSw
            have hSw : Keeps _ w' := hSw
            clear hSw
            go_simp
            try with_reducible rfl
          change wpAnyH _ _ _ _ _ _ _ (Act.put _ (some 66) _) _
          try simp only [Act.put, List.setIfInBounds_toArray, List.set_cons_zero, List.set_cons_succ]
          refine wpAnyH_take (i := 13) (v := ?vv40) (by rfl) (by kernel_rfl) (by kernel_rfl) (by kernel_rfl) (by intro _ _ _ h; exact h) (Or.inl ⟨by kernel_rfl, ?hy40⟩) (by assumption) ?rest40
          case hy40 =>
            intro w' hSw
            have hSw : Keeps _ w' := hSw
            have hx := keep1 hSw hb1
            clear hSw
            go_simp
            try with_reducible rfl
          change wpAnyH _ _ _ _ _ _ _ (Act.put _ (some 67) _) _
          try simp only [Act.put, List.setIfInBounds_toArray, List.set_cons_zero, List.set_cons_succ]
          refine wpAnyH_take (i := 14) (v := ?vv41) (by rfl) (by kernel_rfl) (by kernel_rfl) (by kernel_rfl) (by intro _ _ _ h; exact h) (Or.inl ⟨by kernel_rfl, ?hy41⟩) (by assumption) ?rest41
          case hy41 =>
            intro w' hSw
            have hSw : Keeps _ w' := hSw
            clear hSw
            go_simp
            try with_reducible rfl
          change wpAnyH _ _ _ _ _ _ _ (Act.put _ (some 68) _) _
          try simp only [Act.put, List.setIfInBounds_toArray, List.set_cons_zero, List.set_cons_succ]
          refine wpAnyH_take (i := 15) (v := ?vv42) (by rfl) (by kernel_rfl) (by kernel_rfl) (by kernel_rfl) (by intro _ _ _ h; exact h) (Or.inl ⟨by kernel_rfl, ?hy42⟩) (by assumption) ?rest42
          case hy42 =>
            intro w' hSw
            have hSw : Keeps _ w' := hSw
            clear hSw
            go_simp
            try with_reducible rfl
          change wpAnyH _ _ _ _ _ _ _ (Act.put _ (some 69) _) _
          try simp only [Act.put, List.setIfInBounds_toArray, List.set_cons_zero, List.set_cons_succ]
          refine wpAnyH_take (i := 16) (v := ?vv43) (by rfl) (by kernel_rfl) (by kernel_rfl) (by kernel_rfl) (by intro _ _ _ h; exact h) (Or.inl ⟨by kernel_rfl, ?hy43⟩) (by assumption) ?rest43
          case hy43 =>
            intro w' hSw
            have hSw : Keeps _ w' := hSw
            have hx := keep1 (HX.out.trans hSw) hx2
            clear hSw
            go_simp
            try with_reducible rfl
          change wpAnyH _ _ _ _ _ _ _ (Act.put _ (some 70) _) _
          try simp only [Act.put, List.setIfInBounds_toArray, List.set_cons_zero, List.set_cons_succ]
          refine wpAnyH_take (i := 17) (v := ?vv44) (by rfl) (by kernel_rfl) (by kernel_rfl) (by kernel_rfl) (by intro _ _ _ h; exact h) (Or.inl ⟨by kernel_rfl, ?hy44⟩) (by assumption) ?rest44
          case hy44 =>
            intro w' hSw
            have hSw : Keeps _ w' := hSw
            have hc := str_at' (HY2.out.keeps (HX.out.trans hSw))
            clear hSw
            go_simp
            try with_reducible rfl
          change wpAnyH _ _ _ _ _ _ _ (Act.put _ (some 71) _) _
          try simp only [Act.put, List.setIfInBounds_toArray, List.set_cons_zero, List.set_cons_succ]
          refine wpAnyH_take (i := 18) (v := ?vv45) (by rfl) (by kernel_rfl) (by kernel_rfl) (by kernel_rfl) (by intro _ _ _ h; exact h) (Or.inl ⟨by kernel_rfl, ?hy45⟩) (by assumption) ?rest45
          case hy45 =>
            intro w' hSw
            have hSw : Keeps _ w' := hSw
            clear hSw
            go_simp
            try with_reducible rfl
          change wpAnyH _ _ _ _ _ _ _ (Act.put _ (some 72) _) _
          try simp only [Act.put, List.setIfInBounds_toArray, List.set_cons_zero, List.set_cons_succ]
          refine wpAnyH_done (by kernel_rfl) ?_ _
          refine NoPanic.normal ?_
          go_wp2_with fail
          go_roundw
          case rel => exact ⟨i + 1, by simp, by omega, Lib.hid (HX.out.trans (Keeps.refl wr).drew)⟩
          case measure =>
            simp only [intOf]
            omega
        · have hti : decide ((i : Int) < (is1.length : Int)) = false := by simp; omega
          go_wp2_with fail
          go_roundw
          case rel => exact ⟨j + 1, by simp, by omega, Lib.hid (HKd.out.trans HX.out)⟩
          case measure =>
            simp only [intOf]
            omega
    · go_wp2_with fail
      go_ret
      exact ⟨rfl, HK.out⟩
end Txl
end Go.Proofs.Ytchjncnolmiejaa
