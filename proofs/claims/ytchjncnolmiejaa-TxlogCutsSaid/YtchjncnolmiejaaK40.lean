/- Several texts in one: TxSame, TxCutPlain. -/
import Derived.Test.YtchjncnolmiejaaK21
import Derived.Test.YtchjncnolmiejaaK05
/- pigeonholeref17.Same: two lists of transactions that tell the same. -/
namespace Go.Proofs.Ytchjncnolmiejaa
open Go.RowKit
namespace Txl
open Oct Frm
/-- transactions that are read alone -/
structure TxsR (w : World) (v : Value) (X : List TxX) : Prop where
  row : RowS w 2 v X.length (X.flatMap txC)
  its : ∀ x ∈ X, Row w x.2.1 (x.2.2.map (·.1))
  pay : ∀ x ∈ X, ∀ y ∈ x.2.2, Row w y.1 (y.2.map u8v)
section
variable {w w' : World} {base : Nat} {v : Value} {X : List TxX}
theorem TxsAt.r (h : TxsAt w base v X) : TxsR w v X := ⟨rowS_of h.own, fun x hx => (h.its x hx).row, fun x hx y hy => (h.pay x hx y hy).row⟩
theorem TxsR.keeps (h : TxsR w v X) (k : Keeps w w') : TxsR w' v X := ⟨h.row.keeps k, fun x hx => (h.its x hx).keeps k, fun x hx y hy => (h.pay x hx y hy).keeps k⟩
theorem TxsR.form (h : TxsR w v X) : ∃ p cap, v = .slice p X.length cap ∧ X.length ≤ cap ∧ cap ≤ 9223372036854775807 := h.row.form
theorem TxsR.one (h : TxsR w v X) {j : Nat} (hj : j < X.length) : ∃ b off cap, v = .slice (some ⟨b, off, none⟩) X.length cap ∧ w.cell? ⟨b, off + j * 2, none⟩ = some (.int .i64 (X[j].1 : Int)) ∧ w.cell? ⟨b, off + j * 2 + 1, none⟩ = some X[j].2.1 := by
  obtain ⟨b, off, cap, hv, -, -, hc⟩ := RowS.at_ h.row (by omega)
  refine ⟨b, off, cap, hv, ?_, ?_⟩
  · have := hc.out (j * 2 + 0) _ (by rw [flat_get txC_len X j 0 _ (List.getElem?_eq_getElem hj) (by omega)]; rfl)
    exact this
  · rw [Nat.add_assoc]
    exact hc.out (j * 2 + 1) _ (by rw [flat_get txC_len X j 1 _ (List.getElem?_eq_getElem hj) (by omega)]; rfl)
end
set_option maxRecDepth 100000 in
set_option maxHeartbeats 4000000 in
theorem same17_any (v1 v2 : Value) (X1 X2 : List TxX) (w : World) (h1 : TxsR w v1 X1) (h2 : TxsR w v2 X2) (he : X1.map txP = X2.map txP) (hn : X1.length ≤ 1099511627776) : Calls Try.prog 39 #[v1, v2] w fun e w' => e = .returned (.bool true) ∧ Keeps w w' := by
  have hl : X1.length = X2.length := by have := congrArg List.length he; simpa using this
  obtain ⟨p1, c1, rfl, -, -⟩ := h1.form
  obtain ⟨p2, c2, rfl, -, -⟩ := h2.form
  have H1 := Lib.hid h1
  have H2 := Lib.hid h2
  have HE := Lib.hid (show ∀ j (h1 : j < X1.length) (h2 : j < X2.length), txP X1[j] = txP X2[j] from fun j h1 h2 => by
    have h := congrArg (fun l => l[j]?) he
    simp only [List.getElem?_map, List.getElem?_eq_getElem h1, List.getElem?_eq_getElem h2, Option.map_some, Option.some.injEq] at h
    exact h)
  have HL := Lib.hid hl
  clear h1 h2 he
  rw [← hl]
  clear hl
  go_enter Try.func39, Try.ntmps39
  go_wp2_with fail
  go_loopw [5] (fun i wr => ∃ j : Nat, i = .int .i64 j ∧ j ≤ X1.length ∧ Hid (Keeps w wr)) (fun i _ => X1.length - (intOf i).toNat)
  case atStart => exact ⟨0, rfl, Nat.zero_le _, Lib.hid (Keeps.refl _)⟩
  case round =>
    obtain ⟨j, rfl, hj, HK⟩ := hrel
    by_cases hlt : j < X1.length
    · have hlt2 : j < X2.length := by have := HL.out; omega
      obtain ⟨b1, o1, k1, hv1, ha0, ha1⟩ := (H1.out.keeps HK.out).one hlt
      obtain ⟨b2, o2, k2, hv2, hb0, hb1⟩ := (H2.out.keeps HK.out).one hlt2
      simp only [Value.slice.injEq] at hv1
      obtain ⟨rfl, -, rfl⟩ := hv1
      rw [← HL.out] at hv2
      simp only [Value.slice.injEq] at hv2
      obtain ⟨rfl, -, rfl⟩ := hv2
      have hee := HE.out j hlt hlt2
      have HI1 := Lib.hid ((H1.out.its _ (List.getElem_mem hlt)).keeps HK.out)
      have HI2 := Lib.hid ((H2.out.its _ (List.getElem_mem hlt2)).keeps HK.out)
      have HP1 := Lib.hid (fun y hy => (H1.out.pay _ (List.getElem_mem hlt) y hy).keeps HK.out)
      have HP2 := Lib.hid (fun y hy => (H2.out.pay _ (List.getElem_mem hlt2) y hy).keeps HK.out)
      generalize X1[j] = x1 at *
      generalize X2[j] = x2 at *
      obtain ⟨n1, iv1, is1⟩ := x1
      obtain ⟨n2, iv2, is2⟩ := x2
      simp only [txP, Prod.mk.injEq] at hee
      obtain ⟨hen, hei⟩ := hee
      simp only at hen hei ha0 ha1 hb0 hb1 HI1 HI2 HP1 HP2
      subst hen
      have hil : is1.length = is2.length := by have := congrArg List.length hei; simpa using this
      have HEI := Lib.hid (show ∀ i (h1 : i < is1.length) (h2 : i < is2.length), is1[i].2 = is2[i].2 from fun i h1 h2 => by
        have h := congrArg (fun l => l[i]?) hei
        simp only [List.getElem?_map, List.getElem?_eq_getElem h1, List.getElem?_eq_getElem h2, Option.map_some, Option.some.injEq] at h
        exact h)
      obtain ⟨q1, d1, hq1, hg1, hg2⟩ := HI1.out.form
      obtain ⟨q2, d2, hq2, -, -⟩ := HI2.out.form
      rw [List.length_map] at hq1 hq2 hg1
      unfold maxLen at hg2
      rw [← hil] at hq2
      have HIL := Lib.hid hil
      subst hq1 hq2
      have hji : (j : Int) < (X1.length : Int) := by omega
      clear hei hlt2 hil
      go_upto_region 6 with fail
      refine wp_region_noPanic ?_
      refine wp_region_held_drew (S := fun w' => Keeps (wr) w') (by kernel_rfl) ((Keeps.refl _).drew) (fun _ => ?_)
      have hHeld : Keeps (wr) (wr).drew := (Keeps.refl _).drew
      refine wpAnyH_take (i := 0) (v := ?vv1) (by rfl) (by kernel_rfl) (by kernel_rfl) (by kernel_rfl) (by intro _ _ _ h; exact h) (Or.inl ⟨by kernel_rfl, ?hy1⟩) (by assumption) ?rest1
      case hy1 =>
        intro w' hSw
        have hSw : Keeps _ w' := hSw
        clear hSw
        go_simp
        try with_reducible rfl
      change wpAnyH _ _ _ _ _ _ _ (Act.put _ (some 18) _) _
      try simp only [Act.put, List.setIfInBounds_toArray, List.set_cons_zero, List.set_cons_succ]
      refine wpAnyH_take (i := 1) (v := ?vv2) (by rfl) (by kernel_rfl) (by kernel_rfl) (by kernel_rfl) (by intro _ _ _ h; exact h) (Or.inl ⟨by kernel_rfl, ?hy2⟩) (by assumption) ?rest2
      case hy2 =>
        intro w' hSw
        have hSw : Keeps _ w' := hSw
        clear hSw
        go_simp
        try with_reducible rfl
      change wpAnyH _ _ _ _ _ _ _ (Act.put _ (some 19) _) _
      try simp only [Act.put, List.setIfInBounds_toArray, List.set_cons_zero, List.set_cons_succ]
      refine wpAnyH_take (i := 2) (v := ?vv3) (by rfl) (by kernel_rfl) (by kernel_rfl) (by kernel_rfl) (by intro _ _ _ h; exact h) (Or.inl ⟨by kernel_rfl, ?hy3⟩) (by assumption) ?rest3
      case hy3 =>
        intro w' hSw
        have hSw : Keeps _ w' := hSw
        clear hSw
        go_simp
        try with_reducible rfl
      change wpAnyH _ _ _ _ _ _ _ (Act.put _ (some 20) _) _
      try simp only [Act.put, List.setIfInBounds_toArray, List.set_cons_zero, List.set_cons_succ]
      refine wpAnyH_take (i := 3) (v := ?vv4) (by rfl) (by kernel_rfl) (by kernel_rfl) (by kernel_rfl) (by intro _ _ _ h; exact h) (Or.inl ⟨by kernel_rfl, ?hy4⟩) (by assumption) ?rest4
      case hy4 =>
        intro w' hSw
        have hSw : Keeps _ w' := hSw
        clear hSw
        go_simp
        try with_reducible rfl
      change wpAnyH _ _ _ _ _ _ _ (Act.put _ (some 21) _) _
      try simp only [Act.put, List.setIfInBounds_toArray, List.set_cons_zero, List.set_cons_succ]
      refine wpAnyH_take (i := 4) (v := ?vv5) (by rfl) (by kernel_rfl) (by kernel_rfl) (by kernel_rfl) (by intro _ _ _ h; exact h) (Or.inl ⟨by kernel_rfl, ?hy5⟩) (by assumption) ?rest5
      case hy5 =>
        intro w' hSw
        have hSw : Keeps _ w' := hSw
        have hx := keep1 hSw ha0
        clear hSw
        go_simp
        try with_reducible rfl
      change wpAnyH _ _ _ _ _ _ _ (Act.put _ (some 22) _) _
      try simp only [Act.put, List.setIfInBounds_toArray, List.set_cons_zero, List.set_cons_succ]
      refine wpAnyH_take (i := 5) (v := ?vv6) (by rfl) (by kernel_rfl) (by kernel_rfl) (by kernel_rfl) (by intro _ _ _ h; exact h) (Or.inl ⟨by kernel_rfl, ?hy6⟩) (by assumption) ?rest6
      case hy6 =>
        intro w' hSw
        have hSw : Keeps _ w' := hSw
        clear hSw
        go_simp
        try with_reducible rfl
      change wpAnyH _ _ _ _ _ _ _ (Act.put _ (some 23) _) _
      try simp only [Act.put, List.setIfInBounds_toArray, List.set_cons_zero, List.set_cons_succ]
      refine wpAnyH_take (i := 6) (v := ?vv7) (by rfl) (by kernel_rfl) (by kernel_rfl) (by kernel_rfl) (by intro _ _ _ h; exact h) (Or.inl ⟨by kernel_rfl, ?hy7⟩) (by assumption) ?rest7
      case hy7 =>
        intro w' hSw
        have hSw : Keeps _ w' := hSw
        clear hSw
        go_simp
        try with_reducible rfl
      change wpAnyH _ _ _ _ _ _ _ (Act.put _ (some 24) _) _
      try simp only [Act.put, List.setIfInBounds_toArray, List.set_cons_zero, List.set_cons_succ]
      refine wpAnyH_take (i := 7) (v := ?vv8) (by rfl) (by kernel_rfl) (by kernel_rfl) (by kernel_rfl) (by intro _ _ _ h; exact h) (Or.inl ⟨by kernel_rfl, ?hy8⟩) (by assumption) ?rest8
      case hy8 =>
        intro w' hSw
        have hSw : Keeps _ w' := hSw
        clear hSw
        go_simp
        try with_reducible rfl
      change wpAnyH _ _ _ _ _ _ _ (Act.put _ (some 25) _) _
      try simp only [Act.put, List.setIfInBounds_toArray, List.set_cons_zero, List.set_cons_succ]
      refine wpAnyH_take (i := 8) (v := ?vv9) (by rfl) (by kernel_rfl) (by kernel_rfl) (by kernel_rfl) (by intro _ _ _ h; exact h) (Or.inl ⟨by kernel_rfl, ?hy9⟩) (by assumption) ?rest9
      case hy9 =>
        intro w' hSw
        have hSw : Keeps _ w' := hSw
        clear hSw
        go_simp
        try with_reducible rfl
      change wpAnyH _ _ _ _ _ _ _ (Act.put _ (some 26) _) _
      try simp only [Act.put, List.setIfInBounds_toArray, List.set_cons_zero, List.set_cons_succ]
      refine wpAnyH_take (i := 9) (v := ?vv10) (by rfl) (by kernel_rfl) (by kernel_rfl) (by kernel_rfl) (by intro _ _ _ h; exact h) (Or.inl ⟨by kernel_rfl, ?hy10⟩) (by assumption) ?rest10
      case hy10 =>
        intro w' hSw
        have hSw : Keeps _ w' := hSw
        have hx := keep1 hSw hb0
        clear hSw
        go_simp
        try with_reducible rfl
      change wpAnyH _ _ _ _ _ _ _ (Act.put _ (some 27) _) _
      try simp only [Act.put, List.setIfInBounds_toArray, List.set_cons_zero, List.set_cons_succ]
      refine wpAnyH_take (i := 10) (v := ?vv11) (by rfl) (by kernel_rfl) (by kernel_rfl) (by kernel_rfl) (by intro _ _ _ h; exact h) (Or.inl ⟨by kernel_rfl, ?hy11⟩) (by assumption) ?rest11
      case hy11 =>
        intro w' hSw
        have hSw : Keeps _ w' := hSw
        clear hSw
        go_simp
        try with_reducible rfl
      change wpAnyH _ _ _ _ _ _ _ (Act.put _ (some 28) _) _
      try simp only [Act.put, List.setIfInBounds_toArray, List.set_cons_zero, List.set_cons_succ]
      refine wpAnyH_take (i := 11) (v := ?vv12) (by rfl) (by kernel_rfl) (by kernel_rfl) (by kernel_rfl) (by intro _ _ _ h; exact h) (Or.inl ⟨by kernel_rfl, ?hy12⟩) (by assumption) ?rest12
      case hy12 =>
        intro w' hSw
        have hSw : Keeps _ w' := hSw
        clear hSw
        go_simp
        try with_reducible rfl
      change wpAnyH _ _ _ _ _ _ _ (Act.put _ (some 29) _) _
      try simp only [Act.put, List.setIfInBounds_toArray, List.set_cons_zero, List.set_cons_succ]
      refine wpAnyH_take (i := 12) (v := ?vv13) (by rfl) (by kernel_rfl) (by kernel_rfl) (by kernel_rfl) (by intro _ _ _ h; exact h) (Or.inl ⟨by kernel_rfl, ?hy13⟩) (by assumption) ?rest13
      case hy13 =>
        intro w' hSw
        have hSw : Keeps _ w' := hSw
        clear hSw
        go_simp
        try with_reducible rfl
      change wpAnyH _ _ _ _ _ _ _ (Act.put _ (some 30) _) _
      try simp only [Act.put, List.setIfInBounds_toArray, List.set_cons_zero, List.set_cons_succ]
      refine wpAnyH_take (i := 13) (v := ?vv14) (by rfl) (by kernel_rfl) (by kernel_rfl) (by kernel_rfl) (by intro _ _ _ h; exact h) (Or.inl ⟨by kernel_rfl, ?hy14⟩) (by assumption) ?rest14
      case hy14 =>
        intro w' hSw
        have hSw : Keeps _ w' := hSw
        clear hSw
        go_simp
        try with_reducible rfl
      change wpAnyH _ _ _ _ _ _ _ (Act.put _ (some 31) _) _
      try simp only [Act.put, List.setIfInBounds_toArray, List.set_cons_zero, List.set_cons_succ]
      refine wpAnyH_take (i := 14) (v := ?vv15) (by rfl) (by kernel_rfl) (by kernel_rfl) (by kernel_rfl) (by intro _ _ _ h; exact h) (Or.inl ⟨by kernel_rfl, ?hy15⟩) (by assumption) ?rest15
      case hy15 =>
        intro w' hSw
        have hSw : Keeps _ w' := hSw
        clear hSw
        go_simp
        try with_reducible rfl
      change wpAnyH _ _ _ _ _ _ _ (Act.put _ (some 32) _) _
      try simp only [Act.put, List.setIfInBounds_toArray, List.set_cons_zero, List.set_cons_succ]
      refine wpAnyH_take (i := 15) (v := ?vv16) (by rfl) (by kernel_rfl) (by kernel_rfl) (by kernel_rfl) (by intro _ _ _ h; exact h) (Or.inl ⟨by kernel_rfl, ?hy16⟩) (by assumption) ?rest16
      case hy16 =>
        intro w' hSw
        have hSw : Keeps _ w' := hSw
        clear hSw
        go_simp
        try with_reducible rfl
      change wpAnyH _ _ _ _ _ _ _ (Act.put _ (some 33) _) _
      try simp only [Act.put, List.setIfInBounds_toArray, List.set_cons_zero, List.set_cons_succ]
      refine wpAnyH_take (i := 16) (v := ?vv17) (by rfl) (by kernel_rfl) (by kernel_rfl) (by kernel_rfl) (by intro _ _ _ h; exact h) (Or.inl ⟨by kernel_rfl, ?hy17⟩) (by assumption) ?rest17
      case hy17 =>
        intro w' hSw
        have hSw : Keeps _ w' := hSw
        have hx := keep1 hSw ha1
        clear hSw
        go_simp
        try with_reducible rfl
      change wpAnyH _ _ _ _ _ _ _ (Act.put _ (some 34) _) _
      try simp only [Act.put, List.setIfInBounds_toArray, List.set_cons_zero, List.set_cons_succ]
      refine wpAnyH_take (i := 17) (v := ?vv18) (by rfl) (by kernel_rfl) (by kernel_rfl) (by kernel_rfl) (by intro _ _ _ h; exact h) (Or.inl ⟨by kernel_rfl, ?hy18⟩) (by assumption) ?rest18
      case hy18 =>
        intro w' hSw
        have hSw : Keeps _ w' := hSw
        clear hSw
        go_simp
        try with_reducible rfl
      change wpAnyH _ _ _ _ _ _ _ (Act.put _ (some 35) _) _
      try simp only [Act.put, List.setIfInBounds_toArray, List.set_cons_zero, List.set_cons_succ]
      refine wpAnyH_take (i := 18) (v := ?vv19) (by rfl) (by kernel_rfl) (by kernel_rfl) (by kernel_rfl) (by intro _ _ _ h; exact h) (Or.inl ⟨by kernel_rfl, ?hy19⟩) (by assumption) ?rest19
      case hy19 =>
        intro w' hSw
        have hSw : Keeps _ w' := hSw
        clear hSw
        go_simp
        try with_reducible rfl
      change wpAnyH _ _ _ _ _ _ _ (Act.put _ (some 36) _) _
      try simp only [Act.put, List.setIfInBounds_toArray, List.set_cons_zero, List.set_cons_succ]
      refine wpAnyH_take (i := 19) (v := ?vv20) (by rfl) (by kernel_rfl) (by kernel_rfl) (by kernel_rfl) (by intro _ _ _ h; exact h) (Or.inl ⟨by kernel_rfl, ?hy20⟩) (by assumption) ?rest20
      case hy20 =>
        intro w' hSw
        have hSw : Keeps _ w' := hSw
        clear hSw
        go_simp
        try with_reducible rfl
      change wpAnyH _ _ _ _ _ _ _ (Act.put _ (some 37) _) _
      try simp only [Act.put, List.setIfInBounds_toArray, List.set_cons_zero, List.set_cons_succ]
      refine wpAnyH_take (i := 20) (v := ?vv21) (by rfl) (by kernel_rfl) (by kernel_rfl) (by kernel_rfl) (by intro _ _ _ h; exact h) (Or.inl ⟨by kernel_rfl, ?hy21⟩) (by assumption) ?rest21
      case hy21 =>
        intro w' hSw
        have hSw : Keeps _ w' := hSw
        clear hSw
        go_simp
        try with_reducible rfl
      change wpAnyH _ _ _ _ _ _ _ (Act.put _ (some 38) _) _
      try simp only [Act.put, List.setIfInBounds_toArray, List.set_cons_zero, List.set_cons_succ]
      refine wpAnyH_take (i := 21) (v := ?vv22) (by rfl) (by kernel_rfl) (by kernel_rfl) (by kernel_rfl) (by intro _ _ _ h; exact h) (Or.inl ⟨by kernel_rfl, ?hy22⟩) (by assumption) ?rest22
      case hy22 =>
        intro w' hSw
        have hSw : Keeps _ w' := hSw
        clear hSw
        go_simp
        try with_reducible rfl
      change wpAnyH _ _ _ _ _ _ _ (Act.put _ (some 39) _) _
      try simp only [Act.put, List.setIfInBounds_toArray, List.set_cons_zero, List.set_cons_succ]
      refine wpAnyH_take (i := 22) (v := ?vv23) (by rfl) (by kernel_rfl) (by kernel_rfl) (by kernel_rfl) (by intro _ _ _ h; exact h) (Or.inl ⟨by kernel_rfl, ?hy23⟩) (by assumption) ?rest23
      case hy23 =>
        intro w' hSw
        have hSw : Keeps _ w' := hSw
        have hx := keep1 hSw hb1
        clear hSw
        go_simp
        try with_reducible rfl
      change wpAnyH _ _ _ _ _ _ _ (Act.put _ (some 40) _) _
      try simp only [Act.put, List.setIfInBounds_toArray, List.set_cons_zero, List.set_cons_succ]
      refine wpAnyH_take (i := 23) (v := ?vv24) (by rfl) (by kernel_rfl) (by kernel_rfl) (by kernel_rfl) (by intro _ _ _ h; exact h) (Or.inl ⟨by kernel_rfl, ?hy24⟩) (by assumption) ?rest24
      case hy24 =>
        intro w' hSw
        have hSw : Keeps _ w' := hSw
        clear hSw
        go_simp
        try with_reducible rfl
      change wpAnyH _ _ _ _ _ _ _ (Act.put _ (some 41) _) _
      try simp only [Act.put, List.setIfInBounds_toArray, List.set_cons_zero, List.set_cons_succ]
      refine wpAnyH_take (i := 24) (v := ?vv25) (by rfl) (by kernel_rfl) (by kernel_rfl) (by kernel_rfl) (by intro _ _ _ h; exact h) (Or.inl ⟨by kernel_rfl, ?hy25⟩) (by assumption) ?rest25
      case hy25 =>
        intro w' hSw
        have hSw : Keeps _ w' := hSw
        clear hSw
        go_simp
        try with_reducible rfl
      change wpAnyH _ _ _ _ _ _ _ (Act.put _ (some 42) _) _
      try simp only [Act.put, List.setIfInBounds_toArray, List.set_cons_zero, List.set_cons_succ]
      refine wpAnyH_take (i := 25) (v := ?vv26) (by rfl) (by kernel_rfl) (by kernel_rfl) (by kernel_rfl) (by intro _ _ _ h; exact h) (Or.inl ⟨by kernel_rfl, ?hy26⟩) (by assumption) ?rest26
      case hy26 =>
        intro w' hSw
        have hSw : Keeps _ w' := hSw
        clear hSw
        go_simp
        try with_reducible rfl
      change wpAnyH _ _ _ _ _ _ _ (Act.put _ (some 43) _) _
      try simp only [Act.put, List.setIfInBounds_toArray, List.set_cons_zero, List.set_cons_succ]
      refine wpAnyH_done (by kernel_rfl) ?_ _
      refine NoPanic.normal ?_
      have HKd := Lib.hid (HK.out.trans (Keeps.refl wr).drew)
      have HA1 := Lib.hid (keep1 (Keeps.refl wr).drew ha1)
      have HB1 := Lib.hid (keep1 (Keeps.refl wr).drew hb1)
      have HI1 := Lib.hid (HI1.out.drew)
      have HI2 := Lib.hid (HI2.out.drew)
      have HP1 := Lib.hid (fun y hy => (HP1.out y hy).drew)
      have HP2 := Lib.hid (fun y hy => (HP2.out y hy).drew)
      clear hHeld ha0 hb0 ha1 hb1
      generalize wr.drew = wd at *
      go_wp2_with fail
      go_loopw [6] (fun iv wx => ∃ i : Nat, iv = .int .i64 (i : Int) ∧ i ≤ is1.length ∧ Hid (Keeps wd wx)) (fun iv _ => is1.length - (intOf iv).toNat)
      case atStart => exact ⟨0, rfl, Nat.zero_le _, Lib.hid (Keeps.refl _)⟩
      case round =>
        obtain ⟨i, rfl, hi, HX⟩ := hrel
        have ha1 := keep1 HX.out HA1.out
        have hb1 := keep1 HX.out HB1.out
        by_cases hlti : i < is1.length
        · have hlti2 : i < is2.length := by have := HIL.out; omega
          obtain ⟨s1, f1, e1, hs1, hc1⟩ := row_cells HI1.out (by rw [List.length_map]; omega)
          obtain ⟨s2, f2, e2, hs2, hc2⟩ := row_cells HI2.out (by rw [List.length_map]; omega)
          rw [List.length_map] at hs1 hs2
          simp only [Value.slice.injEq] at hs1 hs2
          obtain ⟨rfl, -, rfl⟩ := hs1
          obtain ⟨rfl, -, rfl⟩ := hs2
          have hx1 := hc1.out i is1[i].1 (by simp [hlti])
          have hx2 := hc2.out i is2[i].1 (by simp [hlti2])
          have HY1 := Lib.hid (HP1.out _ (List.getElem_mem hlti))
          have HY2 := Lib.hid (HP2.out _ (List.getElem_mem hlti2))
          have hee := HEI.out i hlti hlti2
          rw [hee] at HY1
          have hii : (i : Int) < (is1.length : Int) := by omega
          generalize is1[i] = y1 at *
          generalize is2[i] = y2 at *
          obtain ⟨yv1, yl1⟩ := y1
          obtain ⟨yv2, yl2⟩ := y2
          simp only at hx1 hx2 HY1 HY2
          obtain ⟨t1, u1, hyv1, -, -⟩ := (show Row wd yv1 (yl2.map u8v) from HY1.out).formB
          obtain ⟨t2, u2, hyv2, -, -⟩ := (show Row wd yv2 (yl2.map u8v) from HY2.out).formB
          subst hyv1 hyv2
          have heq : ((bstr yl2).toList == (bstr yl2).toList) = true := by simp
          clear hc1 hc2 hlti2 hee
          go_upto_region 11 with fail
          refine wp_region_noPanic ?_
          refine wp_region_held_drew (S := fun w' => Keeps (wr) w') (by kernel_rfl) ((Keeps.refl _).drew) (fun _ => ?_)
          have hHeld : Keeps (wr) (wr).drew := (Keeps.refl _).drew
          refine wpAnyH_take (i := 0) (v := ?vv27) (by rfl) (by kernel_rfl) (by kernel_rfl) (by kernel_rfl) (by intro _ _ _ h; exact h) (Or.inl ⟨by kernel_rfl, ?hy27⟩) (by assumption) ?rest27
          case hy27 =>
            intro w' hSw
            have hSw : Keeps _ w' := hSw
            clear hSw
            go_simp
            try with_reducible rfl
          change wpAnyH _ _ _ _ _ _ _ (Act.put _ (some 54) _) _
          try simp only [Act.put, List.setIfInBounds_toArray, List.set_cons_zero, List.set_cons_succ]
          refine wpAnyH_take (i := 1) (v := ?vv28) (by rfl) (by kernel_rfl) (by kernel_rfl) (by kernel_rfl) (by intro _ _ _ h; exact h) (Or.inl ⟨by kernel_rfl, ?hy28⟩) (by assumption) ?rest28
          case hy28 =>
            intro w' hSw
            have hSw : Keeps _ w' := hSw
            clear hSw
            go_simp
            try with_reducible rfl
          change wpAnyH _ _ _ _ _ _ _ (Act.put _ (some 55) _) _
          try simp only [Act.put, List.setIfInBounds_toArray, List.set_cons_zero, List.set_cons_succ]
          refine wpAnyH_take (i := 2) (v := ?vv29) (by rfl) (by kernel_rfl) (by kernel_rfl) (by kernel_rfl) (by intro _ _ _ h; exact h) (Or.inl ⟨by kernel_rfl, ?hy29⟩) (by assumption) ?rest29
          case hy29 =>
            intro w' hSw
            have hSw : Keeps _ w' := hSw
            clear hSw
            go_simp
            try with_reducible rfl
          change wpAnyH _ _ _ _ _ _ _ (Act.put _ (some 56) _) _
          try simp only [Act.put, List.setIfInBounds_toArray, List.set_cons_zero, List.set_cons_succ]
          refine wpAnyH_take (i := 3) (v := ?vv30) (by rfl) (by kernel_rfl) (by kernel_rfl) (by kernel_rfl) (by intro _ _ _ h; exact h) (Or.inl ⟨by kernel_rfl, ?hy30⟩) (by assumption) ?rest30
          case hy30 =>
            intro w' hSw
            have hSw : Keeps _ w' := hSw
            clear hSw
            go_simp
            try with_reducible rfl
          change wpAnyH _ _ _ _ _ _ _ (Act.put _ (some 57) _) _
          try simp only [Act.put, List.setIfInBounds_toArray, List.set_cons_zero, List.set_cons_succ]
          refine wpAnyH_take (i := 4) (v := ?vv31) (by rfl) (by kernel_rfl) (by kernel_rfl) (by kernel_rfl) (by intro _ _ _ h; exact h) (Or.inl ⟨by kernel_rfl, ?hy31⟩) (by assumption) ?rest31
          case hy31 =>
            intro w' hSw
            have hSw : Keeps _ w' := hSw
            have hx := keep1 hSw ha1
            clear hSw
            go_simp
            try with_reducible rfl
          change wpAnyH _ _ _ _ _ _ _ (Act.put _ (some 58) _) _
          try simp only [Act.put, List.setIfInBounds_toArray, List.set_cons_zero, List.set_cons_succ]
          refine wpAnyH_take (i := 5) (v := ?vv32) (by rfl) (by kernel_rfl) (by kernel_rfl) (by kernel_rfl) (by intro _ _ _ h; exact h) (Or.inl ⟨by kernel_rfl, ?hy32⟩) (by assumption) ?rest32
          case hy32 =>
            intro w' hSw
            have hSw : Keeps _ w' := hSw
            clear hSw
            go_simp
            try with_reducible rfl
          change wpAnyH _ _ _ _ _ _ _ (Act.put _ (some 59) _) _
          try simp only [Act.put, List.setIfInBounds_toArray, List.set_cons_zero, List.set_cons_succ]
          refine wpAnyH_take (i := 6) (v := ?vv33) (by rfl) (by kernel_rfl) (by kernel_rfl) (by kernel_rfl) (by intro _ _ _ h; exact h) (Or.inl ⟨by kernel_rfl, ?hy33⟩) (by assumption) ?rest33
          case hy33 =>
            intro w' hSw
            have hSw : Keeps _ w' := hSw
            clear hSw
            go_simp
            try with_reducible rfl
          change wpAnyH _ _ _ _ _ _ _ (Act.put _ (some 60) _) _
          try simp only [Act.put, List.setIfInBounds_toArray, List.set_cons_zero, List.set_cons_succ]
          refine wpAnyH_take (i := 7) (v := ?vv34) (by rfl) (by kernel_rfl) (by kernel_rfl) (by kernel_rfl) (by intro _ _ _ h; exact h) (Or.inl ⟨by kernel_rfl, ?hy34⟩) (by assumption) ?rest34
          case hy34 =>
            intro w' hSw
            have hSw : Keeps _ w' := hSw
            have hx := keep1 (HX.out.trans hSw) hx1
            clear hSw
            go_simp
            try with_reducible rfl
          change wpAnyH _ _ _ _ _ _ _ (Act.put _ (some 61) _) _
          try simp only [Act.put, List.setIfInBounds_toArray, List.set_cons_zero, List.set_cons_succ]
          refine wpAnyH_take (i := 8) (v := ?vv35) (by rfl) (by kernel_rfl) (by kernel_rfl) (by kernel_rfl) (by intro _ _ _ h; exact h) (Or.inl ⟨by kernel_rfl, ?hy35⟩) (by assumption) ?rest35
          case hy35 =>
            intro w' hSw
            have hSw : Keeps _ w' := hSw
            have hc := str_at' (HY1.out.keeps (HX.out.trans hSw))
            clear hSw
            go_simp
            try with_reducible rfl
          change wpAnyH _ _ _ _ _ _ _ (Act.put _ (some 62) _) _
          try simp only [Act.put, List.setIfInBounds_toArray, List.set_cons_zero, List.set_cons_succ]
          refine wpAnyH_take (i := 9) (v := ?vv36) (by rfl) (by kernel_rfl) (by kernel_rfl) (by kernel_rfl) (by intro _ _ _ h; exact h) (Or.inl ⟨by kernel_rfl, ?hy36⟩) (by assumption) ?rest36
          case hy36 =>
            intro w' hSw
            have hSw : Keeps _ w' := hSw
            clear hSw
            go_simp
            try with_reducible rfl
          change wpAnyH _ _ _ _ _ _ _ (Act.put _ (some 63) _) _
          try simp only [Act.put, List.setIfInBounds_toArray, List.set_cons_zero, List.set_cons_succ]
          refine wpAnyH_take (i := 10) (v := ?vv37) (by rfl) (by kernel_rfl) (by kernel_rfl) (by kernel_rfl) (by intro _ _ _ h; exact h) (Or.inl ⟨by kernel_rfl, ?hy37⟩) (by assumption) ?rest37
          case hy37 =>
            intro w' hSw
            have hSw : Keeps _ w' := hSw
            clear hSw
            go_simp
            try with_reducible rfl
          change wpAnyH _ _ _ _ _ _ _ (Act.put _ (some 64) _) _
          try simp only [Act.put, List.setIfInBounds_toArray, List.set_cons_zero, List.set_cons_succ]
          refine wpAnyH_take (i := 11) (v := ?vv38) (by rfl) (by kernel_rfl) (by kernel_rfl) (by kernel_rfl) (by intro _ _ _ h; exact h) (Or.inl ⟨by kernel_rfl, ?hy38⟩) (by assumption) ?rest38
          case hy38 =>
            intro w' hSw
            have hSw : Keeps _ w' := hSw
            clear hSw
            go_simp
            try with_reducible rfl
          change wpAnyH _ _ _ _ _ _ _ (Act.put _ (some 65) _) _
          try simp only [Act.put, List.setIfInBounds_toArray, List.set_cons_zero, List.set_cons_succ]
          refine wpAnyH_take (i := 12) (v := ?vv39) (by rfl) (by kernel_rfl) (by kernel_rfl) (by kernel_rfl) (by intro _ _ _ h; exact h) (Or.inl ⟨by kernel_rfl, ?hy39⟩) (by assumption) ?rest39
          case hy39 =>
            intro w' hSw
            have hSw : Keeps _ w' := hSw
            clear hSw
            go_simp
            try with_reducible rfl
          change wpAnyH _ _ _ _ _ _ _ (Act.put _ (some 66) _) _
          try simp only [Act.put, List.setIfInBounds_toArray, List.set_cons_zero, List.set_cons_succ]
          refine wpAnyH_take (i := 13) (v := ?vv40) (by rfl) (by kernel_rfl) (by kernel_rfl) (by kernel_rfl) (by intro _ _ _ h; exact h) (Or.inl ⟨by kernel_rfl, ?hy40⟩) (by assumption) ?rest40
          case hy40 =>
            intro w' hSw
            have hSw : Keeps _ w' := hSw
            have hx := keep1 hSw hb1
            clear hSw
            go_simp
            try with_reducible rfl
          change wpAnyH _ _ _ _ _ _ _ (Act.put _ (some 67) _) _
          try simp only [Act.put, List.setIfInBounds_toArray, List.set_cons_zero, List.set_cons_succ]
          refine wpAnyH_take (i := 14) (v := ?vv41) (by rfl) (by kernel_rfl) (by kernel_rfl) (by kernel_rfl) (by intro _ _ _ h; exact h) (Or.inl ⟨by kernel_rfl, ?hy41⟩) (by assumption) ?rest41
          case hy41 =>
            intro w' hSw
            have hSw : Keeps _ w' := hSw
            clear hSw
            go_simp
            try with_reducible rfl
          change wpAnyH _ _ _ _ _ _ _ (Act.put _ (some 68) _) _
          try simp only [Act.put, List.setIfInBounds_toArray, List.set_cons_zero, List.set_cons_succ]
          refine wpAnyH_take (i := 15) (v := ?vv42) (by rfl) (by kernel_rfl) (by kernel_rfl) (by kernel_rfl) (by intro _ _ _ h; exact h) (Or.inl ⟨by kernel_rfl, ?hy42⟩) (by assumption) ?rest42
          case hy42 =>
            intro w' hSw
            have hSw : Keeps _ w' := hSw
            clear hSw
            go_simp
            try with_reducible rfl
          change wpAnyH _ _ _ _ _ _ _ (Act.put _ (some 69) _) _
          try simp only [Act.put, List.setIfInBounds_toArray, List.set_cons_zero, List.set_cons_succ]
          refine wpAnyH_take (i := 16) (v := ?vv43) (by rfl) (by kernel_rfl) (by kernel_rfl) (by kernel_rfl) (by intro _ _ _ h; exact h) (Or.inl ⟨by kernel_rfl, ?hy43⟩) (by assumption) ?rest43
          case hy43 =>
            intro w' hSw
            have hSw : Keeps _ w' := hSw
            have hx := keep1 (HX.out.trans hSw) hx2
            clear hSw
            go_simp
            try with_reducible rfl
          change wpAnyH _ _ _ _ _ _ _ (Act.put _ (some 70) _) _
          try simp only [Act.put, List.setIfInBounds_toArray, List.set_cons_zero, List.set_cons_succ]
          refine wpAnyH_take (i := 17) (v := ?vv44) (by rfl) (by kernel_rfl) (by kernel_rfl) (by kernel_rfl) (by intro _ _ _ h; exact h) (Or.inl ⟨by kernel_rfl, ?hy44⟩) (by assumption) ?rest44
          case hy44 =>
            intro w' hSw
            have hSw : Keeps _ w' := hSw
            have hc := str_at' (HY2.out.keeps (HX.out.trans hSw))
            clear hSw
            go_simp
            try with_reducible rfl
          change wpAnyH _ _ _ _ _ _ _ (Act.put _ (some 71) _) _
          try simp only [Act.put, List.setIfInBounds_toArray, List.set_cons_zero, List.set_cons_succ]
          refine wpAnyH_take (i := 18) (v := ?vv45) (by rfl) (by kernel_rfl) (by kernel_rfl) (by kernel_rfl) (by intro _ _ _ h; exact h) (Or.inl ⟨by kernel_rfl, ?hy45⟩) (by assumption) ?rest45
          case hy45 =>
            intro w' hSw
            have hSw : Keeps _ w' := hSw
            clear hSw
            go_simp
            try with_reducible rfl
          change wpAnyH _ _ _ _ _ _ _ (Act.put _ (some 72) _) _
          try simp only [Act.put, List.setIfInBounds_toArray, List.set_cons_zero, List.set_cons_succ]
          refine wpAnyH_done (by kernel_rfl) ?_ _
          refine NoPanic.normal ?_
          go_wp2_with fail
          go_roundw
          case rel => exact ⟨i + 1, by simp, by omega, Lib.hid (HX.out.trans (Keeps.refl wr).drew)⟩
          case measure =>
            simp only [intOf]
            omega
        · have hti : decide ((i : Int) < (is1.length : Int)) = false := by simp; omega
          go_wp2_with fail
          go_roundw
          case rel => exact ⟨j + 1, by simp, by omega, Lib.hid (HKd.out.trans HX.out)⟩
          case measure =>
            simp only [intOf]
            omega
    · go_wp2_with fail
      go_ret
      exact ⟨rfl, HK.out⟩
end Txl
end Go.Proofs.Ytchjncnolmiejaa

/- Transactions one behind the other, cut off anywhere: plain. -/
namespace Go.Proofs.Ytchjncnolmiejaa
open Go.RowKit
namespace Txl
open Oct Frm
abbrev FK := Nat × List UInt8
def kpl (f : Fr1) : Int × List UInt8 × Int := (f.kind, f.pay, f.len)
def kql (x : FK) : Int × List UInt8 × Int := ((x.1 : Int), x.2, ((wrapL x.1 x.2).length : Int))
theorem row_catL (l : List UInt8) : ∀ (F : List FK) (c k u : Nat), catOk F → c ≤ (cat F).length → u ≤ l.length → l.length ≤ u + k → l.drop u = (cat F).take c → (rowN l k u).1.map kpl = (F.take (whole F c)).map kql := by
  intro F
  induction F with
  | nil =>
    intro c k u _ hc hu hk hd
    have hc0 : c = 0 := by simpa [cat] using hc
    subst hc0
    have hlen := congrArg List.length hd
    rw [List.length_drop] at hlen
    simp at hlen
    rw [rowN_end (by omega)]
    simp [whole]
  | cons x F ih =>
    intro c k u hok hc hu hk hd
    obtain ⟨h1, h2⟩ := hok x (by simp)
    have hpos := wrapL_pos h1 h2
    have hlen := congrArg List.length hd
    rw [List.length_drop, List.length_take] at hlen
    by_cases hw : (wrapL x.1 x.2).length ≤ c
    · have hwh : whole (x :: F) c = whole F (c - (wrapL x.1 x.2).length) + 1 := by rw [whole, if_pos hw]
      rw [cat_cons] at hd hc hlen
      rw [List.length_append] at hc hlen
      rw [take_of_prefix hw] at hd
      obtain ⟨he, hf⟩ := at_put h1 h2 hd
      obtain ⟨k', rfl⟩ : ∃ k', k = k' + 1 := ⟨k - 1, by omega⟩
      have hlt : u < l.length := by omega
      rw [rowN_ok hlt he, hf, hwh]
      simp only [Int.toNat_natCast]
      have hd2 : l.drop (u + (wrapL x.1 x.2).length) = (cat F).take (c - (wrapL x.1 x.2).length) := by
        rw [← List.drop_drop, hd, List.drop_left]
      have i1 := ih (c - (wrapL x.1 x.2).length) k' (u + (wrapL x.1 x.2).length) (fun y hy => hok y (by simp [hy])) (by omega) (by omega) (by omega) hd2
      simp [i1, kpl, kql]
    · have hwh : whole (x :: F) c = 0 := by rw [whole, if_neg hw]
      rw [hwh]
      rw [cat_cons, List.take_append_of_le_length (by omega)] at hd
      rw [cat_cons, List.length_append] at hlen
      by_cases hc0 : c = 0
      · subst hc0
        rw [rowN_end (by omega)]
        simp
      · obtain ⟨k', rfl⟩ : ∃ k', k = k' + 1 := ⟨k - 1, by omega⟩
        have he := at_cut h1 h2 (by omega) hd hu
        rw [rowN_err (by omega) (by rw [he]; decide)]
        simp
theorem whole_more : ∀ (A B : List FK) (c : Nat), (cat A).length ≤ c → whole (A ++ B) c = A.length + whole B (c - (cat A).length)
  | [], B, c, _ => by simp [cat]
  | x :: A, B, c, h => by
    rw [cat_cons, List.length_append] at h ⊢
    have ih := whole_more A B (c - (wrapL x.1 x.2).length) (by omega)
    show whole (x :: (A ++ B)) c = _
    rw [whole, if_pos (by omega), ih, List.length_cons, Nat.sub_sub]
    omega
theorem whole_less : ∀ (A B : List FK) (c : Nat), c < (cat A).length → whole (A ++ B) c < A.length
  | [], B, c, h => by simp [cat] at h
  | x :: A, B, c, h => by
    rw [cat_cons, List.length_append] at h
    show whole (x :: (A ++ B)) c < _
    rw [whole]
    split
    · have ih := whole_less A B (c - (wrapL x.1 x.2).length) (by omega)
      simp only [List.length_cons]
      omega
    · simp
/-- a transaction's frames -/
def trF (n : Nat) (t : List Item) : List FK := (32, numL n (t.length : Int)) :: (t.map (fun x => (33, x)) ++ [(34, numL n (-1))])
def trOk (t : List Item) : Prop := t.length ≤ 1000 ∧ ∀ x ∈ t, x.length ≤ 4096
theorem trF_len (n : Nat) (t : List Item) : (trF n t).length = t.length + 2 := by simp [trF]
theorem trF_cat (n : Nat) (t : List Item) : cat (trF n t) = headL n t.length ++ itemsL t ++ endL n := by
  unfold trF
  rw [cat_cons, cat_append, ← List.append_assoc]
  have e : cat (t.map fun x => ((33 : Nat), x)) = itemsL t := by
    unfold cat itemsL
    rw [List.flatMap_map]
    rfl
  rw [e]
  unfold headL endL
  simp [cat]
theorem trF_tx {n : Nat} {t : List Item} (h1 : 1 ≤ n) (h : trOk t) : txE (n : Int) t = 0 ∧ txL (n : Int) t = cat (trF n t) := by
  have h0 : txE (n : Int) t = 0 := by
    unfold txE
    rw [if_neg (by omega), if_neg (by have := h.1; omega), if_neg]
    intro hh
    obtain ⟨x, hx, hy⟩ := List.any_eq_true.1 hh
    have := h.2 x hx
    simp [bigB] at hy
    omega
  refine ⟨h0, ?_⟩
  unfold txL
  rw [if_pos h0, trF_cat]
  rfl
theorem trF_ok {n : Nat} {t : List Item} (h : trOk t) : catOk (trF n t) := by
  intro x hx
  unfold trF at hx
  rcases List.mem_cons.1 hx with rfl | hx
  · have := numL_len n (t.length : Int)
    exact ⟨by show 32 ≤ 255; decide, by show (numL n (t.length : Int)).length ≤ _; omega⟩
  · rcases List.mem_append.1 hx with hx | hx
    · obtain ⟨y, hy, rfl⟩ := List.mem_map.1 hx
      exact ⟨by show 33 ≤ 255; decide, by have := h.2 y hy; show y.length ≤ _; omega⟩
    · simp only [List.mem_singleton] at hx
      subst hx
      have := numL_len n (-1)
      exact ⟨by show 34 ≤ 255; decide, by show (numL n (-1)).length ≤ _; omega⟩
theorem num_head (n c : Nat) (hn : n < 18446744073709551616) (hc : c < 65536) : (numL n (c : Int)).length = 10 ∧ numP (numL n (c : Int)) = n ∧ cntP (numL n (c : Int)) = c := by
  have h8 := be_length 8 n
  have h2 := be_length 2 c
  have e : numL n (c : Int) = be 8 n ++ be 2 c := by
    unfold numL
    rw [if_pos (by omega)]
    rfl
  have hl : (numL n (c : Int)).length = 10 := by rw [e, List.length_append]; omega
  refine ⟨hl, ?_, ?_⟩
  · unfold numP
    rw [if_pos (by omega), e, List.take_append_of_le_length (by omega), List.take_of_length_le (by omega), valOf_be]
    exact Nat.mod_eq_of_lt (by simpa using hn)
  · unfold cntP
    rw [if_pos (by omega), e, List.drop_append_of_le_length (by omega), List.drop_of_length_le (by omega), List.nil_append, List.take_of_length_le (by omega), valOf_be]
    exact Nat.mod_eq_of_lt (by simpa using hc)
theorem num_end (n : Nat) (hn : n < 18446744073709551616) : (numL n (-1)).length = 8 ∧ numP (numL n (-1)) = n := by
  have h8 := be_length 8 n
  have e : numL n (-1) = be 8 n := by
    unfold numL
    rw [if_neg (by decide), List.append_nil]
  refine ⟨by rw [e]; omega, ?_⟩
  unfold numP
  rw [if_pos (by rw [e]; omega), e, List.take_of_length_le (by omega), valOf_be]
  exact Nat.mod_eq_of_lt (by simpa using hn)
theorem map_eq_take {fs : List Fr1} {F : List FK} (h : fs.map kpl = F.map kql) : fs.length = F.length ∧ ∀ i (h1 : i < fs.length) (h2 : i < F.length), kpl fs[i] = kql F[i] := by
  refine ⟨by have := congrArg List.length h; simpa using this, fun i h1 h2 => ?_⟩
  have := congrArg (fun l => l[i]?) h
  simpa [h1, h2] using this
/-- the frames of a transaction ahead -/
theorem oneK_tr {n : Nat} {t : List Item} (hn : n < 18446744073709551616) (ht : trOk t) {fs : List Fr1} {R : List FK} (h : fs.map kpl = (trF n t ++ R).map kql) : oneK n fs = some t.length ∧ ((fs.drop 1).take t.length).map (·.pay) = t ∧ lenS (fs.take (t.length + 2)) = ((cat (trF n t)).length : Int) ∧ (fs.drop (t.length + 2)).map kpl = R.map kql := by
  have hlen := (map_eq_take h).1
  rw [List.length_append, trF_len] at hlen
  obtain ⟨g1, g2, g3⟩ := num_head n t.length hn (by have := ht.1; omega)
  obtain ⟨e1, e2⟩ := num_end n hn
  -- the pieces
  cases fs with
  | nil => exact absurd hlen (by simp only [List.length_nil]; omega)
  | cons f r =>
    have h0 : kpl f = kql (32, numL n (t.length : Int)) ∧ r.map kpl = (t.map (fun x => ((33 : Nat), x)) ++ [(34, numL n (-1))] ++ R).map kql := by
      unfold trF at h
      simp only [List.cons_append, List.map_cons, List.cons.injEq] at h
      exact ⟨h.1, by rw [h.2]⟩
    obtain ⟨hf, hr⟩ := h0
    simp only [kpl, kql, Prod.mk.injEq] at hf
    obtain ⟨hk, hp, hl⟩ := hf
    rw [List.length_cons] at hlen
    have hT : (r.take t.length).map kpl = (t.map (fun x => ((33 : Nat), x))).map kql := by
      rw [List.map_take, hr, List.append_assoc, List.map_append, List.take_append_of_le_length (by simp), List.take_of_length_le (by simp)]
    have hD : (r.drop t.length).map kpl = ((34, numL n (-1)) :: R).map kql := by
      rw [List.map_drop, hr, List.append_assoc, List.map_append, List.drop_append_of_le_length (by simp), List.drop_of_length_le (by simp), List.nil_append]
      rfl
    have hc : cntP f.pay = t.length := by rw [hp]; exact g3
    have hg : kpl (r.getD t.length ⟨0, 0, 0, []⟩) = kql (34, numL n (-1)) := by
      have : (r.drop t.length)[0]? = some r[t.length] := by rw [List.getElem?_drop, Nat.add_zero, List.getElem?_eq_getElem (by omega)]
      have h2 := congrArg (fun l => l[0]?) hD
      simp only [List.getElem?_map, this, Option.map_some, List.map_cons, List.getElem?_cons_zero, Option.some.injEq] at h2
      rw [List.getD_eq_getElem?_getD, List.getElem?_eq_getElem (by omega)]
      exact h2
    simp only [kpl, kql, Prod.mk.injEq] at hg
    have hone : oneK n (f :: r) = some t.length := by
      rw [oneK_cons, hc, if_pos]
      refine ⟨?_, by omega, ?_, ?_⟩
      · unfold beginB
        rw [hk, hp, g1, g2, g3]
        have := ht.1
        simp
        omega
      · unfold commitB
        rw [hg.1, hg.2.1, e1, e2]
        simp
      · rw [List.all_eq_true]
        intro x hx
        obtain ⟨i, hi, rfl⟩ := List.mem_iff_getElem.1 hx
        have h2 := (map_eq_take hT).2 i hi (by rw [List.length_map]; rw [List.length_take] at hi; omega)
        simp only [List.getElem_map, kpl, kql, Prod.mk.injEq] at h2
        unfold itemB
        rw [h2.1, h2.2.1]
        simp
        exact ht.2 _ (List.getElem_mem _)
    refine ⟨hone, ?_, ?_, ?_⟩
    · have h2 := congrArg (List.map (fun x : Int × List UInt8 × Int => x.2.1)) hT
      simp only [List.map_map] at h2
      have e3 : ((fun x : Int × List UInt8 × Int => x.2.1) ∘ kpl) = (·.pay) := rfl
      have e4 : ((fun x : Int × List UInt8 × Int => x.2.1) ∘ kql ∘ fun x => ((33 : Nat), x)) = id := rfl
      rw [e3] at h2
      show (r.take t.length).map (·.pay) = t
      rw [h2]
      show t.map ((fun x : Int × List UInt8 × Int => x.2.1) ∘ kql ∘ fun x => ((33 : Nat), x)) = t
      rw [e4, List.map_id]
    · have h2 : ((f :: r).take (t.length + 2)).map kpl = (trF n t).map kql := by
        rw [List.map_take, h, List.map_append, List.take_append_of_le_length (by simp [trF_len]), List.take_of_length_le (by simp [trF_len])]
      have h3 := congrArg (List.map (fun x : Int × List UInt8 × Int => x.2.2)) h2
      simp only [List.map_map] at h3
      have h4 : lenS ((f :: r).take (t.length + 2)) = ((trF n t).map ((fun x : Int × List UInt8 × Int => x.2.2) ∘ kql)).sum := by
        unfold lenS
        rw [← h3]
        rfl
      rw [h4]
      unfold cat
      generalize trF n t = F
      clear h h2 h3 h4
      induction F with
      | nil => simp
      | cons x F ih =>
        rw [List.map_cons, List.sum_cons, List.flatMap_cons, List.length_append, ih]
        simp [kql]
    · have e5 : (f :: r).drop (t.length + 2) = (r.drop t.length).drop 1 := by rw [List.drop_drop]; simp [Nat.add_comm]
      rw [e5, List.map_drop, hD]
      rfl
theorem oneK_cut {n : Nat} {t : List Item} (hn : n < 18446744073709551616) (ht : trOk t) {fs : List Fr1} {R : List FK} {m : Nat} (hm : m < t.length + 2) (h : fs.map kpl = ((trF n t ++ R).take m).map kql) : oneK n fs = none := by
  have hlen := (map_eq_take h).1
  rw [List.length_take, List.length_append, trF_len] at hlen
  cases fs with
  | nil => rfl
  | cons f r =>
    obtain ⟨m, rfl⟩ : ∃ m', m = m' + 1 := ⟨m - 1, by simp at hlen; omega⟩
    have hf : kpl f = kql (32, numL n (t.length : Int)) := by
      unfold trF at h
      simp only [List.cons_append, List.take_succ_cons, List.map_cons, List.cons.injEq] at h
      exact h.1
    simp only [kpl, kql, Prod.mk.injEq] at hf
    have hc : cntP f.pay = t.length := by rw [hf.2.1]; exact (num_head n t.length hn (by have := ht.1; omega)).2.2
    rw [oneK_cons, hc, if_neg]
    rintro ⟨-, hh, -⟩
    simp at hlen
    omega
/-- all frames of transactions from number n on -/
def allF : Nat → List (List Item) → List FK
  | _, [] => []
  | n, t :: T => trF n t ++ allF (n + 1) T
/-- how many are whole within so many bytes -/
def cntB : Nat → List (List Item) → Nat → Nat
  | _, [], _ => 0
  | n, t :: T, c => if (cat (trF n t)).length ≤ c then cntB (n + 1) T (c - (cat (trF n t)).length) + 1 else 0
theorem cntB_le : ∀ (T : List (List Item)) (n c : Nat), cntB n T c ≤ T.length
  | [], _, _ => Nat.le_refl _
  | t :: T, n, c => by
    unfold cntB
    split
    · have := cntB_le T (n + 1) (c - (cat (trF n t)).length)
      simp only [List.length_cons]
      omega
    · omega
def numd : Nat → List (List Item) → List (Nat × List Item)
  | _, [] => []
  | n, t :: T => (n, t) :: numd (n + 1) T
theorem numd_get : ∀ (T : List (List Item)) (n i : Nat) (h : i < T.length), (numd n T)[i]? = some (n + i, T[i])
  | t :: T, n, 0, _ => by simp [numd]
  | t :: T, n, i + 1, h => by
    have := numd_get T (n + 1) i (by simpa using h)
    simp only [numd, List.getElem?_cons_succ, this, List.getElem_cons_succ]
    congr 2
    omega
theorem numd_len : ∀ (T : List (List Item)) (n : Nat), (numd n T).length = T.length
  | [], _ => rfl
  | t :: T, n => by simp [numd, numd_len T (n + 1)]
theorem replay_all : ∀ (T : List (List Item)) (n c k : Nat) (fs : List Fr1), n + T.length < 18446744073709551616 → (∀ t ∈ T, trOk t) → fs.map kpl = ((allF n T).take (whole (allF n T) c)).map kql → fs.length ≤ k → replayN k n fs = (numd n (T.take (cntB n T c)), ((cat (allF n (T.take (cntB n T c)))).length : Int))
  | [], n, c, k, fs, _, _, h, _ => by
    have : fs = [] := by
      have := congrArg List.length h
      simp [allF] at this
      exact this
    subst this
    rw [replayN_none rfl]
    simp [cntB, numd, allF, cat]
  | t :: T, n, c, k, fs, hn, hok, h, hk => by
    have ht := hok t (List.mem_cons_self ..)
    have hn' : n < 18446744073709551616 := by omega
    by_cases hc : (cat (trF n t)).length ≤ c
    · have hw : whole (allF n (t :: T)) c = (trF n t).length + whole (allF (n + 1) T) (c - (cat (trF n t)).length) := whole_more _ _ _ hc
      have h2 : fs.map kpl = (trF n t ++ (allF (n + 1) T).take (whole (allF (n + 1) T) (c - (cat (trF n t)).length))).map kql := by
        rw [h, hw]
        show ((trF n t ++ allF (n + 1) T).take _).map kql = _
        rw [List.take_length_add_append]
      obtain ⟨h3, h4, h5, h6⟩ := oneK_tr hn' ht h2
      have hfl : t.length + 2 ≤ fs.length := (oneK_len h3).1
      obtain ⟨k', rfl⟩ : ∃ k', k = k' + 1 := ⟨k - 1, by omega⟩
      have ih := replay_all T (n + 1) (c - (cat (trF n t)).length) k' (fs.drop (t.length + 2)) (by simp only [List.length_cons] at hn; omega) (fun x hx => hok x (List.mem_cons_of_mem _ hx)) h6 (by rw [List.length_drop]; omega)
      rw [replayN_some h3, ih, h4, h5]
      have hcb : cntB n (t :: T) c = cntB (n + 1) T (c - (cat (trF n t)).length) + 1 := by show (if _ then _ else _) = _; rw [if_pos hc]
      rw [hcb, List.take_succ_cons]
      simp only [numd, allF, cat_append, List.length_append]
      rw [Int.natCast_add]
    · have hl := whole_less (trF n t) (allF (n + 1) T) c (by omega)
      rw [trF_len] at hl
      have hone := oneK_cut (R := allF (n + 1) T) hn' ht (m := whole (allF n (t :: T)) c) hl h
      rw [replayN_none hone]
      have hcb : cntB n (t :: T) c = 0 := by show (if _ then _ else _) = _; rw [if_neg hc]
      rw [hcb]
      simp [numd, allF, cat]
theorem allF_ok : ∀ (T : List (List Item)) (n : Nat), (∀ t ∈ T, trOk t) → catOk (allF n T)
  | [], _, _ => fun x hx => absurd hx (List.not_mem_nil)
  | t :: T, n, h => fun x hx => by
    rcases List.mem_append.1 hx with hx | hx
    · exact trF_ok (h t (List.mem_cons_self ..)) x hx
    · exact allF_ok T (n + 1) (fun y hy => h y (List.mem_cons_of_mem _ hy)) x hx
/-- transactions one behind the other, cut off -/
theorem rep_cut (T : List (List Item)) (hT : ∀ t ∈ T, trOk t) (hn : T.length < 1000000) (c : Nat) (hc : c ≤ (cat (allF 1 T)).length) : replayF (rowR ((cat (allF 1 T)).take c)).1 = (numd 1 (T.take (cntB 1 T c)), ((cat (allF 1 (T.take (cntB 1 T c)))).length : Int)) := by
  have h := row_catL ((cat (allF 1 T)).take c) (allF 1 T) c ((cat (allF 1 T)).take c).length 0 (allF_ok T 1 hT) hc (Nat.zero_le _) (by omega) (by simp)
  exact replay_all T 1 c _ _ (by omega) hT h (Nat.le_refl _)
theorem allF_snoc : ∀ (T : List (List Item)) (n : Nat) (t : List Item), allF n (T ++ [t]) = allF n T ++ trF (n + T.length) t
  | [], n, t => by simp [allF]
  | a :: T, n, t => by
    show trF n a ++ allF (n + 1) (T ++ [t]) = _
    rw [allF_snoc T (n + 1) t]
    show _ = trF n a ++ allF (n + 1) T ++ _
    rw [List.append_assoc, List.length_cons, show n + 1 + T.length = n + (T.length + 1) from by omega]
/-- which are whole -/
theorem ends_cnt : ∀ (T : List (List Item)) (n c i : Nat), i < T.length → ((cat (allF n (T.take (i + 1)))).length ≤ c ↔ i < cntB n T c)
  | t :: T, n, c, i, h => by
    rw [List.take_succ_cons]
    show ((cat (trF n t ++ allF (n + 1) (T.take i))).length ≤ c ↔ _)
    rw [cat_append, List.length_append]
    by_cases hc : (cat (trF n t)).length ≤ c
    · have hcb : cntB n (t :: T) c = cntB (n + 1) T (c - (cat (trF n t)).length) + 1 := by show (if _ then _ else _) = _; rw [if_pos hc]
      rw [hcb]
      cases i with
      | zero =>
        have e : (cat (allF (n + 1) (T.take 0))).length = 0 := by simp [allF, cat]
        omega
      | succ i =>
        have := ends_cnt T (n + 1) (c - (cat (trF n t)).length) i (by simpa using h)
        omega
    · have hcb : cntB n (t :: T) c = 0 := by show (if _ then _ else _) = _; rw [if_neg hc]
      rw [hcb]
      omega
end Txl
end Go.Proofs.Ytchjncnolmiejaa
