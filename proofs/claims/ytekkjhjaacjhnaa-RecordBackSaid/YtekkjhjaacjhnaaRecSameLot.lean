/- The reference's SameLot: of what is the same it says so. -/
import Derived.Test.YtekkjhjaacjhnaaRecScan
import Derived.Test.YtekkjhjaacjhnaaRecRef2
namespace Go.Proofs.Ytekkjhjaacjhnaa
open Go.RowKit
namespace Rcd
open Oct Frm

theorem fnd_at {l : List (Fnd × Value)} {i : Nat} (h : i < l.length) {j : Nat} (hj : j < 14) : (l.flatMap fndC)[i * 14 + j]? = (fndC l[i])[j]? := flat_get fndC_len l i j _ (List.getElem?_eq_getElem h) hj
/-- a slice of what was found; the records' data anywhere -/
structure FndsR (w : World) (base : Nat) (v : Value) (l : List (Fnd × Value)) : Prop where
  own : w.ownsRow base 82 14 v l.length (l.flatMap fndC)
  pay : ∀ x ∈ l, Row w x.2 (x.1.rc.data.map u8v)
theorem FndsAt.r {w : World} {base : Nat} {v : Value} {l : List (Fnd × Value)} (h : FndsAt w base v l) : FndsR w base v l := ⟨h.own, fun x hx => (h.pay x hx).row⟩
theorem FndsR.keeps {w w' : World} {base : Nat} {v : Value} {l : List (Fnd × Value)} (h : FndsR w base v l) (k : Keeps w w') : FndsR w' base v l := ⟨ownsRow_keeps h.own k, fun x hx => (h.pay x hx).keeps k⟩
/-- one of a list in memory -/
theorem FndsR.one {w : World} {base : Nat} {p : Option Addr} {n cap : Nat} {l : List (Fnd × Value)} (h : FndsR w base (.slice p n cap) l) {j : Nat} (hj : j < l.length) :
    ∃ g, p = some ⟨g, 0, none⟩ ∧ w.cell? ⟨g, j * 14, none⟩ = some (.int .i64 l[j].1.at') ∧ w.cell? ⟨g, j * 14 + 1, none⟩ = some (.int .i64 l[j].1.len) ∧ w.rangeAt g (j * 14 + 2) (recA l[j].1.rc l[j].2).toList ∧ Row w l[j].2 (l[j].1.rc.data.map u8v) := by
  obtain ⟨g, cap', hv, -, -, -, hc⟩ := ownsRow_at h.own (by omega)
  simp only [Value.slice.injEq] at hv
  obtain ⟨rfl, -, rfl⟩ := hv
  refine ⟨g, rfl, hc (j * 14 + 0) _ (by rw [fnd_at hj (by omega)]; rfl), hc (j * 14 + 1) _ (by rw [fnd_at hj (by omega)]; rfl), fun i x hx => ?_, h.pay _ (List.getElem_mem hj)⟩
  have hi : i < 12 := by
    have := (List.getElem?_eq_some_iff.1 hx).1
    simpa [recA] using this
  rw [Nat.add_assoc]
  refine hc (j * 14 + (2 + i)) _ ?_
  rw [fnd_at hj (by omega), ← hx]
  have : i = 0 ∨ i = 1 ∨ i = 2 ∨ i = 3 ∨ i = 4 ∨ i = 5 ∨ i = 6 ∨ i = 7 ∨ i = 8 ∨ i = 9 ∨ i = 10 ∨ i = 11 := by omega
  rcases this with rfl | rfl | rfl | rfl | rfl | rfl | rfl | rfl | rfl | rfl | rfl | rfl <;> rfl
theorem range_keeps {w w' : World} {g o : Nat} {l : List Value} (h : w.rangeAt g o l) (k : Keeps w w') : w'.rangeAt g o l := fun j x hx => keep1 k (h j x hx)

set_option maxRecDepth 100000 in
set_option maxHeartbeats 4000000 in
theorem sameLot_any (v1 v2 : Value) (l1 l2 : List (Fnd × Value)) (b1 b2 : Nat) (w : World) (h1 : FndsR w b1 v1 l1) (h2 : FndsR w b2 v2 l2) (he : l1.map (·.1) = l2.map (·.1)) (hn : l1.length ≤ 549755813888) :
    Calls Try.prog 47 #[v1, v2] w fun e w' => e = .returned (.bool true) ∧ Keeps w w' := by
  have hl : l1.length = l2.length := by have := congrArg List.length he; simpa using this
  obtain ⟨p1, c1, rfl, -, -⟩ := ownsRow_form h1.own
  obtain ⟨p2, c2, rfl, -, -⟩ := ownsRow_form h2.own
  have H1 := Lib.hid h1
  have H2 := Lib.hid h2
  have HE : Hid (∀ j (h1 : j < l1.length) (h2 : j < l2.length), l1[j].1 = l2[j].1) := Lib.hid (fun j h1 h2 => by
    have h := congrArg (fun l => l[j]?) he
    simp only [List.getElem?_map, List.getElem?_eq_getElem h1, List.getElem?_eq_getElem h2, Option.map_some, Option.some.injEq] at h
    exact h)
  have HL := Lib.hid hl
  clear h1 h2 he
  rw [← hl]
  clear hl
  go_enter Try.func47, Try.ntmps47
  go_wp2_with fail
  go_loopw [5] (fun i wr => ∃ j : Nat, i = .int .i64 j ∧ j ≤ l1.length ∧ Keeps w wr) (fun i _ => l1.length - (intOf i).toNat)
  case atStart => exact ⟨0, rfl, Nat.zero_le _, Keeps.refl _⟩
  case round =>
    obtain ⟨j, rfl, hj, hK⟩ := hrel
    by_cases hlt : j < l1.length
    · have hlt2 : j < l2.length := by have := HL.out; omega
      obtain ⟨g1, rfl, ha0, ha1, hra, hrowa⟩ := (H1.out.keeps hK).one hlt
      obtain ⟨g2, rfl, hb0, hb1, hrb, hrowb⟩ := (H2.out.keeps hK).one hlt2
      have hee := HE.out j hlt hlt2
      rw [hee] at ha0 ha1 hra hrowa
      have HRA := Lib.hid hra
      have HRB := Lib.hid hrb
      have HWA := Lib.hid hrowa
      have HWB := Lib.hid hrowb
      clear hra hrb hrowa hrowb hee
      generalize l1[j].2 = va at *
      generalize l2[j] = x2 at *
      clear hlt2
      obtain ⟨⟨fa, fn, rc⟩, vb⟩ := x2
      simp only at ha0 ha1 hb0 hb1 HRA HRB HWA HWB
      have HK := Lib.hid hK
      clear hK
      have HSM := Lib.hid (fun w' (k : Keeps wr w') => rSame_any rc rc va vb w' (HWA.out.keeps k) (HWB.out.keeps k))
      go_upto_region 6 with fail
      refine wp_region_noPanic ?_
      refine wp_region_held_drew (S := fun w' => Keeps wr w') (by kernel_rfl) ((Keeps.refl wr).drew) (fun _ => ?_)
      have hHeld : Keeps wr (wr).drew := (Keeps.refl wr).drew
      generalize World.drew wr = xs at *
      refine wpAnyH_take (i := 0) (v := ?vv1) (by rfl) (by kernel_rfl) (by kernel_rfl) (by kernel_rfl) (by intro _ _ _ h; exact h) (Or.inl ⟨by kernel_rfl, ?hy1⟩) (by assumption) ?rest1
      case hy1 =>
        intro w' hSw
        have hSw : Keeps wr w' := hSw
        clear hSw
        go_simp
        try with_reducible rfl
      change wpAnyH _ _ _ _ _ _ _ (Act.put _ (some 17) _) _
      try simp only [Act.put, List.setIfInBounds_toArray, List.set_cons_zero, List.set_cons_succ]
      refine wpAnyH_take (i := 1) (v := ?vv2) (by rfl) (by kernel_rfl) (by kernel_rfl) (by kernel_rfl) (by intro _ _ _ h; exact h) (Or.inl ⟨by kernel_rfl, ?hy2⟩) (by assumption) ?rest2
      case hy2 =>
        intro w' hSw
        have hSw : Keeps wr w' := hSw
        clear hSw
        go_simp
        try with_reducible rfl
      change wpAnyH _ _ _ _ _ _ _ (Act.put _ (some 18) _) _
      try simp only [Act.put, List.setIfInBounds_toArray, List.set_cons_zero, List.set_cons_succ]
      refine wpAnyH_take (i := 2) (v := ?vv3) (by rfl) (by kernel_rfl) (by kernel_rfl) (by kernel_rfl) (by intro _ _ _ h; exact h) (Or.inl ⟨by kernel_rfl, ?hy3⟩) (by assumption) ?rest3
      case hy3 =>
        intro w' hSw
        have hSw : Keeps wr w' := hSw
        clear hSw
        go_simp
        try with_reducible rfl
      change wpAnyH _ _ _ _ _ _ _ (Act.put _ (some 19) _) _
      try simp only [Act.put, List.setIfInBounds_toArray, List.set_cons_zero, List.set_cons_succ]
      refine wpAnyH_take (i := 3) (v := ?vv4) (by rfl) (by kernel_rfl) (by kernel_rfl) (by kernel_rfl) (by intro _ _ _ h; exact h) (Or.inl ⟨by kernel_rfl, ?hy4⟩) (by assumption) ?rest4
      case hy4 =>
        intro w' hSw
        have hSw : Keeps wr w' := hSw
        clear hSw
        go_simp
        try with_reducible rfl
      change wpAnyH _ _ _ _ _ _ _ (Act.put _ (some 20) _) _
      try simp only [Act.put, List.setIfInBounds_toArray, List.set_cons_zero, List.set_cons_succ]
      refine wpAnyH_take (i := 4) (v := ?vv5) (by rfl) (by kernel_rfl) (by kernel_rfl) (by kernel_rfl) (by intro _ _ _ h; exact h) (Or.inl ⟨by kernel_rfl, ?hy5⟩) (by assumption) ?rest5
      case hy5 =>
        intro w' hSw
        have hSw : Keeps wr w' := hSw
        have hx := keep1 hSw ha0
        clear hSw
        go_simp
        try with_reducible rfl
      change wpAnyH _ _ _ _ _ _ _ (Act.put _ (some 21) _) _
      try simp only [Act.put, List.setIfInBounds_toArray, List.set_cons_zero, List.set_cons_succ]
      refine wpAnyH_take (i := 5) (v := ?vv6) (by rfl) (by kernel_rfl) (by kernel_rfl) (by kernel_rfl) (by intro _ _ _ h; exact h) (Or.inl ⟨by kernel_rfl, ?hy6⟩) (by assumption) ?rest6
      case hy6 =>
        intro w' hSw
        have hSw : Keeps wr w' := hSw
        clear hSw
        go_simp
        try with_reducible rfl
      change wpAnyH _ _ _ _ _ _ _ (Act.put _ (some 22) _) _
      try simp only [Act.put, List.setIfInBounds_toArray, List.set_cons_zero, List.set_cons_succ]
      refine wpAnyH_take (i := 6) (v := ?vv7) (by rfl) (by kernel_rfl) (by kernel_rfl) (by kernel_rfl) (by intro _ _ _ h; exact h) (Or.inl ⟨by kernel_rfl, ?hy7⟩) (by assumption) ?rest7
      case hy7 =>
        intro w' hSw
        have hSw : Keeps wr w' := hSw
        clear hSw
        go_simp
        try with_reducible rfl
      change wpAnyH _ _ _ _ _ _ _ (Act.put _ (some 23) _) _
      try simp only [Act.put, List.setIfInBounds_toArray, List.set_cons_zero, List.set_cons_succ]
      refine wpAnyH_take (i := 7) (v := ?vv8) (by rfl) (by kernel_rfl) (by kernel_rfl) (by kernel_rfl) (by intro _ _ _ h; exact h) (Or.inl ⟨by kernel_rfl, ?hy8⟩) (by assumption) ?rest8
      case hy8 =>
        intro w' hSw
        have hSw : Keeps wr w' := hSw
        clear hSw
        go_simp
        try with_reducible rfl
      change wpAnyH _ _ _ _ _ _ _ (Act.put _ (some 24) _) _
      try simp only [Act.put, List.setIfInBounds_toArray, List.set_cons_zero, List.set_cons_succ]
      refine wpAnyH_take (i := 8) (v := ?vv9) (by rfl) (by kernel_rfl) (by kernel_rfl) (by kernel_rfl) (by intro _ _ _ h; exact h) (Or.inl ⟨by kernel_rfl, ?hy9⟩) (by assumption) ?rest9
      case hy9 =>
        intro w' hSw
        have hSw : Keeps wr w' := hSw
        clear hSw
        go_simp
        try with_reducible rfl
      change wpAnyH _ _ _ _ _ _ _ (Act.put _ (some 25) _) _
      try simp only [Act.put, List.setIfInBounds_toArray, List.set_cons_zero, List.set_cons_succ]
      refine wpAnyH_take (i := 9) (v := ?vv10) (by rfl) (by kernel_rfl) (by kernel_rfl) (by kernel_rfl) (by intro _ _ _ h; exact h) (Or.inl ⟨by kernel_rfl, ?hy10⟩) (by assumption) ?rest10
      case hy10 =>
        intro w' hSw
        have hSw : Keeps wr w' := hSw
        have hx := keep1 hSw hb0
        clear hSw
        go_simp
        try with_reducible rfl
      change wpAnyH _ _ _ _ _ _ _ (Act.put _ (some 26) _) _
      try simp only [Act.put, List.setIfInBounds_toArray, List.set_cons_zero, List.set_cons_succ]
      refine wpAnyH_take (i := 10) (v := ?vv11) (by rfl) (by kernel_rfl) (by kernel_rfl) (by kernel_rfl) (by intro _ _ _ h; exact h) (Or.inl ⟨by kernel_rfl, ?hy11⟩) (by assumption) ?rest11
      case hy11 =>
        intro w' hSw
        have hSw : Keeps wr w' := hSw
        clear hSw
        go_simp
        try with_reducible rfl
      change wpAnyH _ _ _ _ _ _ _ (Act.put _ (some 27) _) _
      try simp only [Act.put, List.setIfInBounds_toArray, List.set_cons_zero, List.set_cons_succ]
      refine wpAnyH_take (i := 11) (v := ?vv12) (by rfl) (by kernel_rfl) (by kernel_rfl) (by kernel_rfl) (by intro _ _ _ h; exact h) (Or.inl ⟨by kernel_rfl, ?hy12⟩) (by assumption) ?rest12
      case hy12 =>
        intro w' hSw
        have hSw : Keeps wr w' := hSw
        clear hSw
        go_simp
        try with_reducible rfl
      change wpAnyH _ _ _ _ _ _ _ (Act.put _ (some 28) _) _
      try simp only [Act.put, List.setIfInBounds_toArray, List.set_cons_zero, List.set_cons_succ]
      refine wpAnyH_take (i := 12) (v := ?vv13) (by rfl) (by kernel_rfl) (by kernel_rfl) (by kernel_rfl) (by intro _ _ _ h; exact h) (Or.inl ⟨by kernel_rfl, ?hy13⟩) (by assumption) ?rest13
      case hy13 =>
        intro w' hSw
        have hSw : Keeps wr w' := hSw
        clear hSw
        go_simp
        try with_reducible rfl
      change wpAnyH _ _ _ _ _ _ _ (Act.put _ (some 29) _) _
      try simp only [Act.put, List.setIfInBounds_toArray, List.set_cons_zero, List.set_cons_succ]
      refine wpAnyH_take (i := 13) (v := ?vv14) (by rfl) (by kernel_rfl) (by kernel_rfl) (by kernel_rfl) (by intro _ _ _ h; exact h) (Or.inl ⟨by kernel_rfl, ?hy14⟩) (by assumption) ?rest14
      case hy14 =>
        intro w' hSw
        have hSw : Keeps wr w' := hSw
        clear hSw
        go_simp
        try with_reducible rfl
      change wpAnyH _ _ _ _ _ _ _ (Act.put _ (some 30) _) _
      try simp only [Act.put, List.setIfInBounds_toArray, List.set_cons_zero, List.set_cons_succ]
      refine wpAnyH_take (i := 14) (v := ?vv15) (by rfl) (by kernel_rfl) (by kernel_rfl) (by kernel_rfl) (by intro _ _ _ h; exact h) (Or.inl ⟨by kernel_rfl, ?hy15⟩) (by assumption) ?rest15
      case hy15 =>
        intro w' hSw
        have hSw : Keeps wr w' := hSw
        clear hSw
        go_simp
        try with_reducible rfl
      change wpAnyH _ _ _ _ _ _ _ (Act.put _ (some 31) _) _
      try simp only [Act.put, List.setIfInBounds_toArray, List.set_cons_zero, List.set_cons_succ]
      refine wpAnyH_take (i := 15) (v := ?vv16) (by rfl) (by kernel_rfl) (by kernel_rfl) (by kernel_rfl) (by intro _ _ _ h; exact h) (Or.inl ⟨by kernel_rfl, ?hy16⟩) (by assumption) ?rest16
      case hy16 =>
        intro w' hSw
        have hSw : Keeps wr w' := hSw
        clear hSw
        go_simp
        try with_reducible rfl
      change wpAnyH _ _ _ _ _ _ _ (Act.put _ (some 32) _) _
      try simp only [Act.put, List.setIfInBounds_toArray, List.set_cons_zero, List.set_cons_succ]
      refine wpAnyH_take (i := 16) (v := ?vv17) (by rfl) (by kernel_rfl) (by kernel_rfl) (by kernel_rfl) (by intro _ _ _ h; exact h) (Or.inl ⟨by kernel_rfl, ?hy17⟩) (by assumption) ?rest17
      case hy17 =>
        intro w' hSw
        have hSw : Keeps wr w' := hSw
        have hx := keep1 hSw ha1
        clear hSw
        go_simp
        try with_reducible rfl
      change wpAnyH _ _ _ _ _ _ _ (Act.put _ (some 33) _) _
      try simp only [Act.put, List.setIfInBounds_toArray, List.set_cons_zero, List.set_cons_succ]
      refine wpAnyH_take (i := 17) (v := ?vv18) (by rfl) (by kernel_rfl) (by kernel_rfl) (by kernel_rfl) (by intro _ _ _ h; exact h) (Or.inl ⟨by kernel_rfl, ?hy18⟩) (by assumption) ?rest18
      case hy18 =>
        intro w' hSw
        have hSw : Keeps wr w' := hSw
        clear hSw
        go_simp
        try with_reducible rfl
      change wpAnyH _ _ _ _ _ _ _ (Act.put _ (some 34) _) _
      try simp only [Act.put, List.setIfInBounds_toArray, List.set_cons_zero, List.set_cons_succ]
      refine wpAnyH_take (i := 18) (v := ?vv19) (by rfl) (by kernel_rfl) (by kernel_rfl) (by kernel_rfl) (by intro _ _ _ h; exact h) (Or.inl ⟨by kernel_rfl, ?hy19⟩) (by assumption) ?rest19
      case hy19 =>
        intro w' hSw
        have hSw : Keeps wr w' := hSw
        clear hSw
        go_simp
        try with_reducible rfl
      change wpAnyH _ _ _ _ _ _ _ (Act.put _ (some 35) _) _
      try simp only [Act.put, List.setIfInBounds_toArray, List.set_cons_zero, List.set_cons_succ]
      refine wpAnyH_take (i := 19) (v := ?vv20) (by rfl) (by kernel_rfl) (by kernel_rfl) (by kernel_rfl) (by intro _ _ _ h; exact h) (Or.inl ⟨by kernel_rfl, ?hy20⟩) (by assumption) ?rest20
      case hy20 =>
        intro w' hSw
        have hSw : Keeps wr w' := hSw
        clear hSw
        go_simp
        try with_reducible rfl
      change wpAnyH _ _ _ _ _ _ _ (Act.put _ (some 36) _) _
      try simp only [Act.put, List.setIfInBounds_toArray, List.set_cons_zero, List.set_cons_succ]
      refine wpAnyH_take (i := 20) (v := ?vv21) (by rfl) (by kernel_rfl) (by kernel_rfl) (by kernel_rfl) (by intro _ _ _ h; exact h) (Or.inl ⟨by kernel_rfl, ?hy21⟩) (by assumption) ?rest21
      case hy21 =>
        intro w' hSw
        have hSw : Keeps wr w' := hSw
        clear hSw
        go_simp
        try with_reducible rfl
      change wpAnyH _ _ _ _ _ _ _ (Act.put _ (some 37) _) _
      try simp only [Act.put, List.setIfInBounds_toArray, List.set_cons_zero, List.set_cons_succ]
      refine wpAnyH_take (i := 21) (v := ?vv22) (by rfl) (by kernel_rfl) (by kernel_rfl) (by kernel_rfl) (by intro _ _ _ h; exact h) (Or.inl ⟨by kernel_rfl, ?hy22⟩) (by assumption) ?rest22
      case hy22 =>
        intro w' hSw
        have hSw : Keeps wr w' := hSw
        have hx := keep1 hSw hb1
        clear hSw
        go_simp
        try with_reducible rfl
      change wpAnyH _ _ _ _ _ _ _ (Act.put _ (some 38) _) _
      try simp only [Act.put, List.setIfInBounds_toArray, List.set_cons_zero, List.set_cons_succ]
      refine wpAnyH_take (i := 22) (v := ?vv23) (by rfl) (by kernel_rfl) (by kernel_rfl) (by kernel_rfl) (by intro _ _ _ h; exact h) (Or.inl ⟨by kernel_rfl, ?hy23⟩) (by assumption) ?rest23
      case hy23 =>
        intro w' hSw
        have hSw : Keeps wr w' := hSw
        clear hSw
        go_simp
        try with_reducible rfl
      change wpAnyH _ _ _ _ _ _ _ (Act.put _ (some 39) _) _
      try simp only [Act.put, List.setIfInBounds_toArray, List.set_cons_zero, List.set_cons_succ]
      refine wpAnyH_take (i := 23) (v := ?vv24) (by rfl) (by kernel_rfl) (by kernel_rfl) (by kernel_rfl) (by intro _ _ _ h; exact h) (Or.inl ⟨by kernel_rfl, ?hy24⟩) (by assumption) ?rest24
      case hy24 =>
        intro w' hSw
        have hSw : Keeps wr w' := hSw
        clear hSw
        go_simp
        try with_reducible rfl
      change wpAnyH _ _ _ _ _ _ _ (Act.put _ (some 40) _) _
      try simp only [Act.put, List.setIfInBounds_toArray, List.set_cons_zero, List.set_cons_succ]
      refine wpAnyH_take (i := 24) (v := ?vv25) (by rfl) (by kernel_rfl) (by kernel_rfl) (by kernel_rfl) (by intro _ _ _ h; exact h) (Or.inl ⟨by kernel_rfl, ?hy25⟩) (by assumption) ?rest25
      case hy25 =>
        intro w' hSw
        have hSw : Keeps wr w' := hSw
        clear hSw
        go_simp
        try with_reducible rfl
      change wpAnyH _ _ _ _ _ _ _ (Act.put _ (some 41) _) _
      try simp only [Act.put, List.setIfInBounds_toArray, List.set_cons_zero, List.set_cons_succ]
      refine wpAnyH_take (i := 25) (v := ?vv26) (by rfl) (by kernel_rfl) (by kernel_rfl) (by kernel_rfl) (by intro _ _ _ h; exact h) (Or.inl ⟨by kernel_rfl, ?hy26⟩) (by assumption) ?rest26
      case hy26 =>
        intro w' hSw
        have hSw : Keeps wr w' := hSw
        clear hSw
        go_simp
        try with_reducible rfl
      change wpAnyH _ _ _ _ _ _ _ (Act.put _ (some 42) _) _
      try simp only [Act.put, List.setIfInBounds_toArray, List.set_cons_zero, List.set_cons_succ]
      refine wpAnyH_take (i := 26) (v := ?vv27) (by rfl) (by kernel_rfl) (by kernel_rfl) (by kernel_rfl) (by intro _ _ _ h; exact h) (Or.inl ⟨by kernel_rfl, ?hy27⟩) (by assumption) ?rest27
      case hy27 =>
        intro w' hSw
        have hSw : Keeps wr w' := hSw
        clear hSw
        go_simp
        try with_reducible rfl
      change wpAnyH _ _ _ _ _ _ _ (Act.put _ (some 43) _) _
      try simp only [Act.put, List.setIfInBounds_toArray, List.set_cons_zero, List.set_cons_succ]
      refine wpAnyH_take (i := 27) (v := ?vv28) (by rfl) (by kernel_rfl) (by kernel_rfl) (by kernel_rfl) (by intro _ _ _ h; exact h) (Or.inl ⟨by kernel_rfl, ?hy28⟩) (by assumption) ?rest28
      case hy28 =>
        intro w' hSw
        have hSw : Keeps wr w' := hSw
        clear hSw
        go_simp
        try with_reducible rfl
      change wpAnyH _ _ _ _ _ _ _ (Act.put _ (some 44) _) _
      try simp only [Act.put, List.setIfInBounds_toArray, List.set_cons_zero, List.set_cons_succ]
      refine wpAnyH_take (i := 28) (v := ?vv29) (by rfl) (by kernel_rfl) (by kernel_rfl) (by kernel_rfl) (by intro _ _ _ h; exact h) (Or.inl ⟨by kernel_rfl, ?hy29⟩) (by assumption) ?rest29
      case hy29 =>
        intro w' hSw
        have hSw : Keeps wr w' := hSw
        clear hSw
        go_simp
        try with_reducible rfl
      change wpAnyH _ _ _ _ _ _ _ (Act.put _ (some 45) _) _
      try simp only [Act.put, List.setIfInBounds_toArray, List.set_cons_zero, List.set_cons_succ]
      refine wpAnyH_take (i := 29) (by rfl) (by kernel_rfl) (by kernel_rfl) (by kernel_rfl) (by intro _ _ _ h; exact h) (yieldsIf_ldR (by kernel_rfl) recM (fun w' hS => range_keeps HRA.out hS) _ rfl rfl) (by assumption) ?rest30
      change wpAnyH _ _ _ _ _ _ _ (Act.put _ (some 46) _) _
      try simp only [Act.put, List.setIfInBounds_toArray, List.set_cons_zero, List.set_cons_succ]
      refine wpAnyH_take (i := 30) (v := ?vv31) (by rfl) (by kernel_rfl) (by kernel_rfl) (by kernel_rfl) (by intro _ _ _ h; exact h) (Or.inl ⟨by kernel_rfl, ?hy31⟩) (by assumption) ?rest31
      case hy31 =>
        intro w' hSw
        have hSw : Keeps wr w' := hSw
        clear hSw
        go_simp
        try with_reducible rfl
      change wpAnyH _ _ _ _ _ _ _ (Act.put _ (some 47) _) _
      try simp only [Act.put, List.setIfInBounds_toArray, List.set_cons_zero, List.set_cons_succ]
      refine wpAnyH_take (i := 31) (v := ?vv32) (by rfl) (by kernel_rfl) (by kernel_rfl) (by kernel_rfl) (by intro _ _ _ h; exact h) (Or.inl ⟨by kernel_rfl, ?hy32⟩) (by assumption) ?rest32
      case hy32 =>
        intro w' hSw
        have hSw : Keeps wr w' := hSw
        clear hSw
        go_simp
        try with_reducible rfl
      change wpAnyH _ _ _ _ _ _ _ (Act.put _ (some 48) _) _
      try simp only [Act.put, List.setIfInBounds_toArray, List.set_cons_zero, List.set_cons_succ]
      refine wpAnyH_take (i := 32) (v := ?vv33) (by rfl) (by kernel_rfl) (by kernel_rfl) (by kernel_rfl) (by intro _ _ _ h; exact h) (Or.inl ⟨by kernel_rfl, ?hy33⟩) (by assumption) ?rest33
      case hy33 =>
        intro w' hSw
        have hSw : Keeps wr w' := hSw
        clear hSw
        go_simp
        try with_reducible rfl
      change wpAnyH _ _ _ _ _ _ _ (Act.put _ (some 49) _) _
      try simp only [Act.put, List.setIfInBounds_toArray, List.set_cons_zero, List.set_cons_succ]
      refine wpAnyH_take (i := 33) (v := ?vv34) (by rfl) (by kernel_rfl) (by kernel_rfl) (by kernel_rfl) (by intro _ _ _ h; exact h) (Or.inl ⟨by kernel_rfl, ?hy34⟩) (by assumption) ?rest34
      case hy34 =>
        intro w' hSw
        have hSw : Keeps wr w' := hSw
        clear hSw
        go_simp
        try with_reducible rfl
      change wpAnyH _ _ _ _ _ _ _ (Act.put _ (some 50) _) _
      try simp only [Act.put, List.setIfInBounds_toArray, List.set_cons_zero, List.set_cons_succ]
      refine wpAnyH_take (i := 34) (by rfl) (by kernel_rfl) (by kernel_rfl) (by kernel_rfl) (by intro _ _ _ h; exact h) (yieldsIf_ldR (by kernel_rfl) recM (fun w' hS => range_keeps HRB.out hS) _ rfl rfl) (by assumption) ?rest35
      change wpAnyH _ _ _ _ _ _ _ (Act.put _ (some 51) _) _
      try simp only [Act.put, List.setIfInBounds_toArray, List.set_cons_zero, List.set_cons_succ]
      refine wpAnyH_ready (rs := [35]) (by kernel_rfl) (by simp) ?_
      refine AllReadyH.cons (o := _) rfl (fun K hK => ?_) ?_
      · go_simp
        refine (HSM.out _ hHeld).mono ?_
        rintro e y1 ⟨rfl, hk⟩
        have hb := hHeld.trans hk
        simp only [decide_true]
        clear hk
        go_wp2_with fail
        refine hK.out _ _ hb (fun _ => ?_)
        clear hK K hHeld
        have hHeld : Keeps wr y1 := hb
        clear hb
        try simp only [Act.put, List.setIfInBounds_toArray, List.set_cons_zero, List.set_cons_succ]
        refine wpAnyH_take (i := 36) (v := ?vv36) (by rfl) (by kernel_rfl) (by kernel_rfl) (by kernel_rfl) (by intro _ _ _ h; exact h) (Or.inl ⟨by kernel_rfl, ?hy36⟩) (by assumption) ?rest36
        case hy36 =>
          intro w' hSw
          have hSw : Keeps wr w' := hSw
          clear hSw
          go_simp
          try with_reducible rfl
        change wpAnyH _ _ _ _ _ _ _ (Act.put _ (some 53) _) _
        try simp only [Act.put, List.setIfInBounds_toArray, List.set_cons_zero, List.set_cons_succ]
        refine wpAnyH_take (i := 37) (v := ?vv37) (by rfl) (by kernel_rfl) (by kernel_rfl) (by kernel_rfl) (by intro _ _ _ h; exact h) (Or.inl ⟨by kernel_rfl, ?hy37⟩) (by assumption) ?rest37
        case hy37 =>
          intro w' hSw
          have hSw : Keeps wr w' := hSw
          clear hSw
          go_simp
          try with_reducible rfl
        change wpAnyH _ _ _ _ _ _ _ (Act.put _ (some 54) _) _
        try simp only [Act.put, List.setIfInBounds_toArray, List.set_cons_zero, List.set_cons_succ]
        refine wpAnyH_done (by kernel_rfl) ?_ _
        refine NoPanic.normal ?_
        go_wp2_with fail
        go_roundw
        case rel => exact ⟨j + 1, by simp, by omega, HK.out.trans hHeld⟩
        case measure =>
          simp only [intOf]
          omega
      exact AllReadyH.nil
    · go_wp2_with fail
      go_ret
      exact ⟨rfl, hK⟩
end Rcd
end Go.Proofs.Ytekkjhjaacjhnaa
