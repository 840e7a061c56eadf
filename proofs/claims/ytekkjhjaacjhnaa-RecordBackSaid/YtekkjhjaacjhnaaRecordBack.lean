/- The law RecordBack, walked. -/
import Derived.Test.YtekkjhjaacjhnaaRecSameLot
import Derived.Test.YtekkjhjaacjhnaaRecAwake
import Derived.Test.YtekkjhjaacjhnaaRecBackAll
import Derived.Test.YtekkjhjaacjhnaaRecMem
namespace Go.Proofs.Ytekkjhjaacjhnaa
open Go.RowKit
namespace Rcd
open Oct Frm

theorem recC_arr (x : RecX) : (recC x).toArray = recA x.1 x.2 := rfl
theorem rowS_rec {w : World} {v : Value} {l : List RecX} (h : RowS w 12 v l.length (l.flatMap recC)) {j : Nat} (hj : j < l.length) : ∃ b off cap, v = .slice (some ⟨b, off, none⟩) l.length cap ∧ w.rangeAt b (off + j * 12) (recA l[j].1 l[j].2).toList := by
  obtain ⟨b, off, cap, hv, -, -, hc⟩ := h.at_ (by omega)
  refine ⟨b, off, cap, hv, fun i x hx => ?_⟩
  have hi : i < 12 := by
    have := (List.getElem?_eq_some_iff.1 hx).1
    simpa [recA] using this
  rw [Nat.add_assoc]
  refine hc.out (j * 12 + i) x ?_
  rw [rec_at hj hi]
  exact hx

theorem rowGrown {w w' : World} {base base2 C n C2 n2 : Nat} {e e2 : TypeId} {v v2 : Value} {xs xs2 : List Value} (h : w.ownsRow base e C v n xs) (h2 : w.ownsRow base2 e2 C2 v2 n2 xs2) (hne : e2 ≠ e) (hg : w.grownBy w' v2.ownBlock) : w'.ownsRow base e C v n xs :=
  ownsRow_mods h ((Mods.refl (fun x => v2.ownBlock = some x) w).grown hg (fun k hk _ => hk)) (fun x hx hs => by
    rcases h.2 with ⟨rfl, _⟩ | ⟨g, cap, cur, rfl, _, hgg, _⟩
    · simp [Value.ownBlock] at hx
    · have : g = x := by simpa [Value.ownBlock] using hx
      subst this
      exact ownsRow_ty h2 hne _ hs _ _ hgg)

set_option maxRecDepth 100000 in
set_option maxHeartbeats 8000000 in
theorem recordBack_walk (W : World) (v0 : Value) (l : List RecX) (a b : RecX) (r0 : RowS W 12 v0 l.length (l.flatMap recC)) (w0 : ∀ y ∈ l, RecOk W y) (w1 : RecOk W a) (w2 : RecOk W b) : Calls Try.prog 10 #[v0, .agg (recC a).toArray, .agg (recC b).toArray] W fun e w' => e = .returned (.bool true) ∧ Keeps W w' := by
  rw [recC_arr, recC_arr]
  obtain ⟨r, va⟩ := a
  obtain ⟨s, vb⟩ := b
  have hra : Row W va (r.data.map u8v) := w1.row
  have hrb : Row W vb (s.data.map u8v) := w2.row
  clear w1 w2
  simp only
  obtain ⟨pa, na, ca, rfl⟩ : ∃ p n c, va = .slice p n c := let ⟨p, c, h, _⟩ := hra.form; ⟨p, _, c, h⟩
  obtain ⟨pb, nb, cb, rfl⟩ : ∃ p n c, vb = .slice p n c := let ⟨p, c, h, _⟩ := hrb.form; ⟨p, _, c, h⟩
  obtain ⟨p0, c0, rfl, hc0, hc1⟩ := r0.form
  have HRA := Lib.hid hra
  have HRB := Lib.hid hrb
  have HR0 := Lib.hid r0
  have HW0 := Lib.hid (fun y hy => (w0 y hy).row)
  clear hra hrb r0 w0
  have HLA := Lib.hid (fun w h => light_any r (.slice pa na ca) w h)
  have HLB := Lib.hid (fun w h => light_any s (.slice pb nb cb) w h)
  have HS1 := Lib.hid (fun w h1 h2 => same_any r s (.slice pa na ca) (.slice pb nb cb) w h1 h2)
  have HS2 := Lib.hid (fun w h1 h2 => rSame_any r s (.slice pa na ca) (.slice pb nb cb) w h1 h2)
  unfold recA
  go_enter Try.func10, Try.ntmps10
  go_upto_region 1 with fail
  generalize hW : World.alloc (World.alloc W _) _ = x1
  have HK := Lib.hid (show Keeps W x1 from by rw [← hW]; exact ((Keeps.refl _).alloc _).alloc _)
  have HA := Lib.hid (show Blk x1 W.heap.size 30 (recA r (.slice pa na ca)) from by rw [← hW]; exact (Blk.new _ _ _ rfl).alloc _)
  have HB := Lib.hid (show Blk x1 (W.heap.size + 1) 30 (recA s (.slice pb nb cb)) from by rw [← hW]; exact Blk.new _ _ _ (by rw [asz]))
  clear hW
  generalize W.heap.size = Q at *
  go_wp2_with fail
  refine (awake14_any x1).mono ?_
  rintro e x2 ⟨rfl, hk2⟩
  have HK := Lib.hid (HK.out.trans hk2)
  have HA := Lib.hid (HA.out.keeps hk2)
  have HB := Lib.hid (HB.out.keeps hk2)
  clear hk2
  have recM : Mids Try.prog 30 12 := recM
  generalize hla : decide (r.data.length ≤ 1000) = la at *
  generalize hlb : decide (s.data.length ≤ 1000) = lb at *
  clear hla hlb
  generalize decide (r = s) = eb at *
  by_cases h20 : 20 < l.length
  · have e20 : decide (20 < (l.length : Int)) = true := decide_eq_true (by omega)
    clear h20
    go_upto_region 3 with fail
    refine wp_region_noPanic ?_
    refine wp_region_held_drew (S := fun w' => Keeps x2 w') (by kernel_rfl) ((Keeps.refl x2).drew) (fun _ => ?_)
    have hHeld : Keeps x2 (x2).drew := (Keeps.refl x2).drew
    generalize World.drew x2 = xs at *
    refine wpAnyH_take (i := 0) (v := ?vv1) (by rfl) (by kernel_rfl) (by kernel_rfl) (by kernel_rfl) (by intro _ _ _ h; exact h) (Or.inl ⟨by kernel_rfl, ?hy1⟩) (by assumption) ?rest1
    case hy1 =>
      intro w' hSw
      have hSw : Keeps x2 w' := hSw
      clear hSw
      go_simp
      try with_reducible rfl
    change wpAnyH _ _ _ _ _ _ _ (Act.put _ (some 16) _) _
    try simp only [Act.put, List.setIfInBounds_toArray, List.set_cons_zero, List.set_cons_succ]
    refine wpAnyH_take (i := 1) (v := ?vv2) (by rfl) (by kernel_rfl) (by kernel_rfl) (by kernel_rfl) (by intro _ _ _ h; exact h) (Or.inl ⟨by kernel_rfl, ?hy2⟩) (by assumption) ?rest2
    case hy2 =>
      intro w' hSw
      have hSw : Keeps x2 w' := hSw
      clear hSw
      go_simp
      try with_reducible rfl
    change wpAnyH _ _ _ _ _ _ _ (Act.put _ (some 17) _) _
    try simp only [Act.put, List.setIfInBounds_toArray, List.set_cons_zero, List.set_cons_succ]
    refine wpAnyH_take (i := 2) (v := ?vv3) (by rfl) (by kernel_rfl) (by kernel_rfl) (by kernel_rfl) (by intro _ _ _ h; exact h) (Or.inl ⟨by kernel_rfl, ?hy3⟩) (by assumption) ?rest3
    case hy3 =>
      intro w' hSw
      have hSw : Keeps x2 w' := hSw
      clear hSw
      go_simp
      try with_reducible rfl
    change wpAnyH _ _ _ _ _ _ _ (Act.put _ (some 18) _) _
    try simp only [Act.put, List.setIfInBounds_toArray, List.set_cons_zero, List.set_cons_succ]
    refine wpAnyH_take (i := 3) (v := ?vv4) (by rfl) (by kernel_rfl) (by kernel_rfl) (by kernel_rfl) (by intro _ _ _ h; exact h) (Or.inl ⟨by kernel_rfl, ?hy4⟩) (by assumption) ?rest4
    case hy4 =>
      intro w' hSw
      have hSw : Keeps x2 w' := hSw
      clear hSw
      go_simp
      try with_reducible rfl
    change wpAnyH _ _ _ _ _ _ _ (Act.put _ (some 19) _) _
    try simp only [Act.put, List.setIfInBounds_toArray, List.set_cons_zero, List.set_cons_succ]
    refine wpAnyH_take (i := 4) (by rfl) (by kernel_rfl) (by kernel_rfl) (by kernel_rfl) (by intro _ _ _ h; exact h) (Or.inr ⟨by kernel_rfl, rfl⟩) (by assumption) ?rest5
    change wpAnyH _ _ _ _ _ _ _ (Act.put _ (some 20) _) _
    try simp only [Act.put, List.setIfInBounds_toArray, List.set_cons_zero, List.set_cons_succ]
    refine wpAnyH_take (i := 5) (by rfl) (by kernel_rfl) (by kernel_rfl) (by kernel_rfl) (by intro _ _ _ h; exact h) (Or.inr ⟨by kernel_rfl, rfl⟩) (by assumption) ?rest6
    change wpAnyH _ _ _ _ _ _ _ (Act.put _ (some 21) _) _
    try simp only [Act.put, List.setIfInBounds_toArray, List.set_cons_zero, List.set_cons_succ]
    refine wpAnyH_take (i := 6) (by rfl) (by kernel_rfl) (by kernel_rfl) (by kernel_rfl) (by intro _ _ _ h; exact h) (Or.inr ⟨by kernel_rfl, rfl⟩) (by assumption) ?rest7
    change wpAnyH _ _ _ _ _ _ _ (Act.put _ (some 22) _) _
    try simp only [Act.put, List.setIfInBounds_toArray, List.set_cons_zero, List.set_cons_succ]
    refine wpAnyH_take (i := 7) (v := ?vv8) (by rfl) (by kernel_rfl) (by kernel_rfl) (by kernel_rfl) (by intro _ _ _ h; exact h) (Or.inl ⟨by kernel_rfl, ?hy8⟩) (by assumption) ?rest8
    case hy8 =>
      intro w' hSw
      have hSw : Keeps x2 w' := hSw
      clear hSw
      go_simp
      try with_reducible rfl
    change wpAnyH _ _ _ _ _ _ _ (Act.put _ (some 23) _) _
    try simp only [Act.put, List.setIfInBounds_toArray, List.set_cons_zero, List.set_cons_succ]
    refine wpAnyH_take (i := 8) (v := ?vv9) (by rfl) (by kernel_rfl) (by kernel_rfl) (by kernel_rfl) (by intro _ _ _ h; exact h) (Or.inl ⟨by kernel_rfl, ?hy9⟩) (by assumption) ?rest9
    case hy9 =>
      intro w' hSw
      have hSw : Keeps x2 w' := hSw
      clear hSw
      go_simp
      try with_reducible rfl
    change wpAnyH _ _ _ _ _ _ _ (Act.put _ (some 24) _) _
    try simp only [Act.put, List.setIfInBounds_toArray, List.set_cons_zero, List.set_cons_succ]
    refine wpAnyH_take (i := 9) (by rfl) (by kernel_rfl) (by kernel_rfl) (by kernel_rfl) (by intro _ _ _ h; exact h) (Or.inr ⟨by kernel_rfl, rfl⟩) (by assumption) ?rest10
    change wpAnyH _ _ _ _ _ _ _ (Act.put _ (some 25) _) _
    try simp only [Act.put, List.setIfInBounds_toArray, List.set_cons_zero, List.set_cons_succ]
    refine wpAnyH_take (i := 10) (by rfl) (by kernel_rfl) (by kernel_rfl) (by kernel_rfl) (by intro _ _ _ h; exact h) (Or.inr ⟨by kernel_rfl, rfl⟩) (by assumption) ?rest11
    change wpAnyH _ _ _ _ _ _ _ (Act.put _ (some 26) _) _
    try simp only [Act.put, List.setIfInBounds_toArray, List.set_cons_zero, List.set_cons_succ]
    refine wpAnyH_take (i := 11) (by rfl) (by kernel_rfl) (by kernel_rfl) (by kernel_rfl) (by intro _ _ _ h; exact h) (Or.inr ⟨by kernel_rfl, rfl⟩) (by assumption) ?rest12
    change wpAnyH _ _ _ _ _ _ _ (Act.put _ (some 27) _) _
    try simp only [Act.put, List.setIfInBounds_toArray, List.set_cons_zero, List.set_cons_succ]
    refine wpAnyH_take (i := 12) (v := ?vv13) (by rfl) (by kernel_rfl) (by kernel_rfl) (by kernel_rfl) (by intro _ _ _ h; exact h) (Or.inl ⟨by kernel_rfl, ?hy13⟩) (by assumption) ?rest13
    case hy13 =>
      intro w' hSw
      have hSw : Keeps x2 w' := hSw
      clear hSw
      go_simp
      try with_reducible rfl
    change wpAnyH _ _ _ _ _ _ _ (Act.put _ (some 28) _) _
    try simp only [Act.put, List.setIfInBounds_toArray, List.set_cons_zero, List.set_cons_succ]
    refine wpAnyH_take (i := 13) (v := ?vv14) (by rfl) (by kernel_rfl) (by kernel_rfl) (by kernel_rfl) (by intro _ _ _ h; exact h) (Or.inl ⟨by kernel_rfl, ?hy14⟩) (by assumption) ?rest14
    case hy14 =>
      intro w' hSw
      have hSw : Keeps x2 w' := hSw
      clear hSw
      go_simp
      try with_reducible rfl
    change wpAnyH _ _ _ _ _ _ _ (Act.put _ (some 29) _) _
    try simp only [Act.put, List.setIfInBounds_toArray, List.set_cons_zero, List.set_cons_succ]
    refine wpAnyH_take (i := 14) (by rfl) (by kernel_rfl) (by kernel_rfl) (by kernel_rfl) (by intro _ _ _ h; exact h) (Or.inr ⟨by kernel_rfl, rfl⟩) (by assumption) ?rest15
    change wpAnyH _ _ _ _ _ _ _ (Act.put _ (some 30) _) _
    try simp only [Act.put, List.setIfInBounds_toArray, List.set_cons_zero, List.set_cons_succ]
    refine wpAnyH_take (i := 15) (by rfl) (by kernel_rfl) (by kernel_rfl) (by kernel_rfl) (by intro _ _ _ h; exact h) (Or.inr ⟨by kernel_rfl, rfl⟩) (by assumption) ?rest16
    change wpAnyH _ _ _ _ _ _ _ (Act.put _ (some 31) _) _
    try simp only [Act.put, List.setIfInBounds_toArray, List.set_cons_zero, List.set_cons_succ]
    refine wpAnyH_take (i := 16) (by rfl) (by kernel_rfl) (by kernel_rfl) (by kernel_rfl) (by intro _ _ _ h; exact h) (Or.inr ⟨by kernel_rfl, rfl⟩) (by assumption) ?rest17
    change wpAnyH _ _ _ _ _ _ _ (Act.put _ (some 32) _) _
    try simp only [Act.put, List.setIfInBounds_toArray, List.set_cons_zero, List.set_cons_succ]
    refine wpAnyH_take (i := 17) (by rfl) (by kernel_rfl) (by kernel_rfl) (by kernel_rfl) (by intro _ _ _ h; exact h) (Or.inr ⟨by kernel_rfl, rfl⟩) (by assumption) ?rest18
    change wpAnyH _ _ _ _ _ _ _ (Act.put _ (some 33) _) _
    try simp only [Act.put, List.setIfInBounds_toArray, List.set_cons_zero, List.set_cons_succ]
    refine wpAnyH_take (i := 18) (by rfl) (by kernel_rfl) (by kernel_rfl) (by kernel_rfl) (by intro _ _ _ h; exact h) (Or.inr ⟨by kernel_rfl, rfl⟩) (by assumption) ?rest19
    change wpAnyH _ _ _ _ _ _ _ (Act.put _ (some 34) _) _
    try simp only [Act.put, List.setIfInBounds_toArray, List.set_cons_zero, List.set_cons_succ]
    refine wpAnyH_take (i := 19) (by rfl) (by kernel_rfl) (by kernel_rfl) (by kernel_rfl) (by intro _ _ _ h; exact h) (Or.inr ⟨by kernel_rfl, rfl⟩) (by assumption) ?rest20
    change wpAnyH _ _ _ _ _ _ _ (Act.put _ (some 35) _) _
    try simp only [Act.put, List.setIfInBounds_toArray, List.set_cons_zero, List.set_cons_succ]
    refine wpAnyH_take (i := 20) (by rfl) (by kernel_rfl) (by kernel_rfl) (by kernel_rfl) (by intro _ _ _ h; exact h) (Or.inr ⟨by kernel_rfl, rfl⟩) (by assumption) ?rest21
    change wpAnyH _ _ _ _ _ _ _ (Act.put _ (some 36) _) _
    try simp only [Act.put, List.setIfInBounds_toArray, List.set_cons_zero, List.set_cons_succ]
    refine wpAnyH_take (i := 21) (v := ?vv22) (by rfl) (by kernel_rfl) (by kernel_rfl) (by kernel_rfl) (by intro _ _ _ h; exact h) (Or.inl ⟨by kernel_rfl, ?hy22⟩) (by assumption) ?rest22
    case hy22 =>
      intro w' hSw
      have hSw : Keeps x2 w' := hSw
      clear hSw
      go_simp
      try with_reducible rfl
    change wpAnyH _ _ _ _ _ _ _ (Act.put _ (some 37) _) _
    try simp only [Act.put, List.setIfInBounds_toArray, List.set_cons_zero, List.set_cons_succ]
    refine wpAnyH_done (by kernel_rfl) ?_ _
    refine NoPanic.normal ?_
    have HKE := Lib.hid (HK.out.trans hHeld)
    go_wp2_with fail
    go_ret
    exact ⟨rfl, HKE.out⟩
  have e20 : decide (20 < (l.length : Int)) = false := decide_eq_false (by omega)
  cases la with
  | false =>
    clear h20
    go_upto_region 3 with fail
    refine wp_region_noPanic ?_
    refine wp_region_held_drew (S := fun w' => Keeps x2 w') (by kernel_rfl) ((Keeps.refl x2).drew) (fun _ => ?_)
    have hHeld : Keeps x2 (x2).drew := (Keeps.refl x2).drew
    generalize World.drew x2 = xs at *
    refine wpAnyH_take (i := 0) (v := ?vv23) (by rfl) (by kernel_rfl) (by kernel_rfl) (by kernel_rfl) (by intro _ _ _ h; exact h) (Or.inl ⟨by kernel_rfl, ?hy23⟩) (by assumption) ?rest23
    case hy23 =>
      intro w' hSw
      have hSw : Keeps x2 w' := hSw
      clear hSw
      go_simp
      try with_reducible rfl
    change wpAnyH _ _ _ _ _ _ _ (Act.put _ (some 16) _) _
    try simp only [Act.put, List.setIfInBounds_toArray, List.set_cons_zero, List.set_cons_succ]
    refine wpAnyH_take (i := 1) (v := ?vv24) (by rfl) (by kernel_rfl) (by kernel_rfl) (by kernel_rfl) (by intro _ _ _ h; exact h) (Or.inl ⟨by kernel_rfl, ?hy24⟩) (by assumption) ?rest24
    case hy24 =>
      intro w' hSw
      have hSw : Keeps x2 w' := hSw
      clear hSw
      go_simp
      try with_reducible rfl
    change wpAnyH _ _ _ _ _ _ _ (Act.put _ (some 17) _) _
    try simp only [Act.put, List.setIfInBounds_toArray, List.set_cons_zero, List.set_cons_succ]
    refine wpAnyH_take (i := 2) (v := ?vv25) (by rfl) (by kernel_rfl) (by kernel_rfl) (by kernel_rfl) (by intro _ _ _ h; exact h) (Or.inl ⟨by kernel_rfl, ?hy25⟩) (by assumption) ?rest25
    case hy25 =>
      intro w' hSw
      have hSw : Keeps x2 w' := hSw
      clear hSw
      go_simp
      try with_reducible rfl
    change wpAnyH _ _ _ _ _ _ _ (Act.put _ (some 18) _) _
    try simp only [Act.put, List.setIfInBounds_toArray, List.set_cons_zero, List.set_cons_succ]
    refine wpAnyH_take (i := 3) (v := ?vv26) (by rfl) (by kernel_rfl) (by kernel_rfl) (by kernel_rfl) (by intro _ _ _ h; exact h) (Or.inl ⟨by kernel_rfl, ?hy26⟩) (by assumption) ?rest26
    case hy26 =>
      intro w' hSw
      have hSw : Keeps x2 w' := hSw
      clear hSw
      go_simp
      try with_reducible rfl
    change wpAnyH _ _ _ _ _ _ _ (Act.put _ (some 19) _) _
    try simp only [Act.put, List.setIfInBounds_toArray, List.set_cons_zero, List.set_cons_succ]
    refine wpAnyH_take (i := 4) (by rfl) (by kernel_rfl) (by kernel_rfl) (by kernel_rfl) (by intro _ _ _ h; exact h) (yieldsIf_ld (by kernel_rfl) recM (fun w' hS => HA.out.keeps hS) _ rfl rfl) (by assumption) ?rest27
    change wpAnyH _ _ _ _ _ _ _ (Act.put _ (some 20) _) _
    try simp only [Act.put, List.setIfInBounds_toArray, List.set_cons_zero, List.set_cons_succ]
    refine wpAnyH_ready (rs := [5]) (by kernel_rfl) (by simp) ?_
    refine AllReadyH.cons (o := _) rfl (fun K hK => ?_) ?_
    · go_simp
      refine (HLA.out _ (HRA.out.keeps (HK.out.trans hHeld))).mono ?_
      rintro e y1 ⟨rfl, hk⟩
      have hb := hHeld.trans hk
      clear hk
      go_wp2_with fail
      refine hK.out _ _ hb (fun _ => ?_)
      clear hK K hHeld
      have hHeld : Keeps x2 y1 := hb
      clear hb
      try simp only [Act.put, List.setIfInBounds_toArray, List.set_cons_zero, List.set_cons_succ]
      refine wpAnyH_take (i := 6) (v := ?vv28) (by rfl) (by kernel_rfl) (by kernel_rfl) (by kernel_rfl) (by intro _ _ _ h; exact h) (Or.inl ⟨by kernel_rfl, ?hy28⟩) (by assumption) ?rest28
      case hy28 =>
        intro w' hSw
        have hSw : Keeps x2 w' := hSw
        clear hSw
        go_simp
        try with_reducible rfl
      change wpAnyH _ _ _ _ _ _ _ (Act.put _ (some 22) _) _
      try simp only [Act.put, List.setIfInBounds_toArray, List.set_cons_zero, List.set_cons_succ]
      refine wpAnyH_take (i := 7) (v := ?vv29) (by rfl) (by kernel_rfl) (by kernel_rfl) (by kernel_rfl) (by intro _ _ _ h; exact h) (Or.inl ⟨by kernel_rfl, ?hy29⟩) (by assumption) ?rest29
      case hy29 =>
        intro w' hSw
        have hSw : Keeps x2 w' := hSw
        clear hSw
        go_simp
        try with_reducible rfl
      change wpAnyH _ _ _ _ _ _ _ (Act.put _ (some 23) _) _
      try simp only [Act.put, List.setIfInBounds_toArray, List.set_cons_zero, List.set_cons_succ]
      refine wpAnyH_take (i := 8) (v := ?vv30) (by rfl) (by kernel_rfl) (by kernel_rfl) (by kernel_rfl) (by intro _ _ _ h; exact h) (Or.inl ⟨by kernel_rfl, ?hy30⟩) (by assumption) ?rest30
      case hy30 =>
        intro w' hSw
        have hSw : Keeps x2 w' := hSw
        clear hSw
        go_simp
        try with_reducible rfl
      change wpAnyH _ _ _ _ _ _ _ (Act.put _ (some 24) _) _
      try simp only [Act.put, List.setIfInBounds_toArray, List.set_cons_zero, List.set_cons_succ]
      refine wpAnyH_take (i := 9) (by rfl) (by kernel_rfl) (by kernel_rfl) (by kernel_rfl) (by intro _ _ _ h; exact h) (Or.inr ⟨by kernel_rfl, rfl⟩) (by assumption) ?rest31
      change wpAnyH _ _ _ _ _ _ _ (Act.put _ (some 25) _) _
      try simp only [Act.put, List.setIfInBounds_toArray, List.set_cons_zero, List.set_cons_succ]
      refine wpAnyH_take (i := 10) (by rfl) (by kernel_rfl) (by kernel_rfl) (by kernel_rfl) (by intro _ _ _ h; exact h) (Or.inr ⟨by kernel_rfl, rfl⟩) (by assumption) ?rest32
      change wpAnyH _ _ _ _ _ _ _ (Act.put _ (some 26) _) _
      try simp only [Act.put, List.setIfInBounds_toArray, List.set_cons_zero, List.set_cons_succ]
      refine wpAnyH_take (i := 11) (by rfl) (by kernel_rfl) (by kernel_rfl) (by kernel_rfl) (by intro _ _ _ h; exact h) (Or.inr ⟨by kernel_rfl, rfl⟩) (by assumption) ?rest33
      change wpAnyH _ _ _ _ _ _ _ (Act.put _ (some 27) _) _
      try simp only [Act.put, List.setIfInBounds_toArray, List.set_cons_zero, List.set_cons_succ]
      refine wpAnyH_take (i := 12) (v := ?vv34) (by rfl) (by kernel_rfl) (by kernel_rfl) (by kernel_rfl) (by intro _ _ _ h; exact h) (Or.inl ⟨by kernel_rfl, ?hy34⟩) (by assumption) ?rest34
      case hy34 =>
        intro w' hSw
        have hSw : Keeps x2 w' := hSw
        clear hSw
        go_simp
        try with_reducible rfl
      change wpAnyH _ _ _ _ _ _ _ (Act.put _ (some 28) _) _
      try simp only [Act.put, List.setIfInBounds_toArray, List.set_cons_zero, List.set_cons_succ]
      refine wpAnyH_take (i := 13) (v := ?vv35) (by rfl) (by kernel_rfl) (by kernel_rfl) (by kernel_rfl) (by intro _ _ _ h; exact h) (Or.inl ⟨by kernel_rfl, ?hy35⟩) (by assumption) ?rest35
      case hy35 =>
        intro w' hSw
        have hSw : Keeps x2 w' := hSw
        clear hSw
        go_simp
        try with_reducible rfl
      change wpAnyH _ _ _ _ _ _ _ (Act.put _ (some 29) _) _
      try simp only [Act.put, List.setIfInBounds_toArray, List.set_cons_zero, List.set_cons_succ]
      refine wpAnyH_take (i := 14) (by rfl) (by kernel_rfl) (by kernel_rfl) (by kernel_rfl) (by intro _ _ _ h; exact h) (Or.inr ⟨by kernel_rfl, rfl⟩) (by assumption) ?rest36
      change wpAnyH _ _ _ _ _ _ _ (Act.put _ (some 30) _) _
      try simp only [Act.put, List.setIfInBounds_toArray, List.set_cons_zero, List.set_cons_succ]
      refine wpAnyH_take (i := 15) (by rfl) (by kernel_rfl) (by kernel_rfl) (by kernel_rfl) (by intro _ _ _ h; exact h) (Or.inr ⟨by kernel_rfl, rfl⟩) (by assumption) ?rest37
      change wpAnyH _ _ _ _ _ _ _ (Act.put _ (some 31) _) _
      try simp only [Act.put, List.setIfInBounds_toArray, List.set_cons_zero, List.set_cons_succ]
      refine wpAnyH_take (i := 16) (by rfl) (by kernel_rfl) (by kernel_rfl) (by kernel_rfl) (by intro _ _ _ h; exact h) (Or.inr ⟨by kernel_rfl, rfl⟩) (by assumption) ?rest38
      change wpAnyH _ _ _ _ _ _ _ (Act.put _ (some 32) _) _
      try simp only [Act.put, List.setIfInBounds_toArray, List.set_cons_zero, List.set_cons_succ]
      refine wpAnyH_take (i := 17) (by rfl) (by kernel_rfl) (by kernel_rfl) (by kernel_rfl) (by intro _ _ _ h; exact h) (Or.inr ⟨by kernel_rfl, rfl⟩) (by assumption) ?rest39
      change wpAnyH _ _ _ _ _ _ _ (Act.put _ (some 33) _) _
      try simp only [Act.put, List.setIfInBounds_toArray, List.set_cons_zero, List.set_cons_succ]
      refine wpAnyH_take (i := 18) (by rfl) (by kernel_rfl) (by kernel_rfl) (by kernel_rfl) (by intro _ _ _ h; exact h) (Or.inr ⟨by kernel_rfl, rfl⟩) (by assumption) ?rest40
      change wpAnyH _ _ _ _ _ _ _ (Act.put _ (some 34) _) _
      try simp only [Act.put, List.setIfInBounds_toArray, List.set_cons_zero, List.set_cons_succ]
      refine wpAnyH_take (i := 19) (by rfl) (by kernel_rfl) (by kernel_rfl) (by kernel_rfl) (by intro _ _ _ h; exact h) (Or.inr ⟨by kernel_rfl, rfl⟩) (by assumption) ?rest41
      change wpAnyH _ _ _ _ _ _ _ (Act.put _ (some 35) _) _
      try simp only [Act.put, List.setIfInBounds_toArray, List.set_cons_zero, List.set_cons_succ]
      refine wpAnyH_take (i := 20) (by rfl) (by kernel_rfl) (by kernel_rfl) (by kernel_rfl) (by intro _ _ _ h; exact h) (Or.inr ⟨by kernel_rfl, rfl⟩) (by assumption) ?rest42
      change wpAnyH _ _ _ _ _ _ _ (Act.put _ (some 36) _) _
      try simp only [Act.put, List.setIfInBounds_toArray, List.set_cons_zero, List.set_cons_succ]
      refine wpAnyH_take (i := 21) (v := ?vv43) (by rfl) (by kernel_rfl) (by kernel_rfl) (by kernel_rfl) (by intro _ _ _ h; exact h) (Or.inl ⟨by kernel_rfl, ?hy43⟩) (by assumption) ?rest43
      case hy43 =>
        intro w' hSw
        have hSw : Keeps x2 w' := hSw
        clear hSw
        go_simp
        try with_reducible rfl
      change wpAnyH _ _ _ _ _ _ _ (Act.put _ (some 37) _) _
      try simp only [Act.put, List.setIfInBounds_toArray, List.set_cons_zero, List.set_cons_succ]
      refine wpAnyH_done (by kernel_rfl) ?_ _
      refine NoPanic.normal ?_
      have HKE := Lib.hid (HK.out.trans hHeld)
      have HAE := Lib.hid (HA.out.keeps hHeld)
      obtain ⟨a0, a1, a2, a3, a4, a5, a6, a7, a8, a9, a10, a11⟩ := rec12 HAE.out
      go_wp2_with fail
      refine (HLA.out _ (HRA.out.keeps HKE.out)).mono ?_
      rintro e y2 ⟨rfl, hk⟩
      go_wp2_with fail
      go_ret
      exact ⟨rfl, HKE.out.trans hk⟩
    exact AllReadyH.nil
  | true =>
  cases lb with
  | false =>
    clear h20
    go_upto_region 3 with fail
    refine wp_region_noPanic ?_
    refine wp_region_held_drew (S := fun w' => Keeps x2 w') (by kernel_rfl) ((Keeps.refl x2).drew) (fun _ => ?_)
    have hHeld : Keeps x2 (x2).drew := (Keeps.refl x2).drew
    generalize World.drew x2 = xs at *
    refine wpAnyH_take (i := 0) (v := ?vv44) (by rfl) (by kernel_rfl) (by kernel_rfl) (by kernel_rfl) (by intro _ _ _ h; exact h) (Or.inl ⟨by kernel_rfl, ?hy44⟩) (by assumption) ?rest44
    case hy44 =>
      intro w' hSw
      have hSw : Keeps x2 w' := hSw
      clear hSw
      go_simp
      try with_reducible rfl
    change wpAnyH _ _ _ _ _ _ _ (Act.put _ (some 16) _) _
    try simp only [Act.put, List.setIfInBounds_toArray, List.set_cons_zero, List.set_cons_succ]
    refine wpAnyH_take (i := 1) (v := ?vv45) (by rfl) (by kernel_rfl) (by kernel_rfl) (by kernel_rfl) (by intro _ _ _ h; exact h) (Or.inl ⟨by kernel_rfl, ?hy45⟩) (by assumption) ?rest45
    case hy45 =>
      intro w' hSw
      have hSw : Keeps x2 w' := hSw
      clear hSw
      go_simp
      try with_reducible rfl
    change wpAnyH _ _ _ _ _ _ _ (Act.put _ (some 17) _) _
    try simp only [Act.put, List.setIfInBounds_toArray, List.set_cons_zero, List.set_cons_succ]
    refine wpAnyH_take (i := 2) (v := ?vv46) (by rfl) (by kernel_rfl) (by kernel_rfl) (by kernel_rfl) (by intro _ _ _ h; exact h) (Or.inl ⟨by kernel_rfl, ?hy46⟩) (by assumption) ?rest46
    case hy46 =>
      intro w' hSw
      have hSw : Keeps x2 w' := hSw
      clear hSw
      go_simp
      try with_reducible rfl
    change wpAnyH _ _ _ _ _ _ _ (Act.put _ (some 18) _) _
    try simp only [Act.put, List.setIfInBounds_toArray, List.set_cons_zero, List.set_cons_succ]
    refine wpAnyH_take (i := 3) (v := ?vv47) (by rfl) (by kernel_rfl) (by kernel_rfl) (by kernel_rfl) (by intro _ _ _ h; exact h) (Or.inl ⟨by kernel_rfl, ?hy47⟩) (by assumption) ?rest47
    case hy47 =>
      intro w' hSw
      have hSw : Keeps x2 w' := hSw
      clear hSw
      go_simp
      try with_reducible rfl
    change wpAnyH _ _ _ _ _ _ _ (Act.put _ (some 19) _) _
    try simp only [Act.put, List.setIfInBounds_toArray, List.set_cons_zero, List.set_cons_succ]
    refine wpAnyH_take (i := 4) (by rfl) (by kernel_rfl) (by kernel_rfl) (by kernel_rfl) (by intro _ _ _ h; exact h) (yieldsIf_ld (by kernel_rfl) recM (fun w' hS => HA.out.keeps hS) _ rfl rfl) (by assumption) ?rest48
    change wpAnyH _ _ _ _ _ _ _ (Act.put _ (some 20) _) _
    try simp only [Act.put, List.setIfInBounds_toArray, List.set_cons_zero, List.set_cons_succ]
    refine wpAnyH_ready (rs := [5]) (by kernel_rfl) (by simp) ?_
    refine AllReadyH.cons (o := _) rfl (fun K hK => ?_) ?_
    · go_simp
      refine (HLA.out _ (HRA.out.keeps (HK.out.trans hHeld))).mono ?_
      rintro e y1 ⟨rfl, hk⟩
      have hb := hHeld.trans hk
      clear hk
      go_wp2_with fail
      refine hK.out _ _ hb (fun _ => ?_)
      clear hK K hHeld
      have hHeld : Keeps x2 y1 := hb
      clear hb
      try simp only [Act.put, List.setIfInBounds_toArray, List.set_cons_zero, List.set_cons_succ]
      refine wpAnyH_take (i := 6) (v := ?vv49) (by rfl) (by kernel_rfl) (by kernel_rfl) (by kernel_rfl) (by intro _ _ _ h; exact h) (Or.inl ⟨by kernel_rfl, ?hy49⟩) (by assumption) ?rest49
      case hy49 =>
        intro w' hSw
        have hSw : Keeps x2 w' := hSw
        clear hSw
        go_simp
        try with_reducible rfl
      change wpAnyH _ _ _ _ _ _ _ (Act.put _ (some 22) _) _
      try simp only [Act.put, List.setIfInBounds_toArray, List.set_cons_zero, List.set_cons_succ]
      refine wpAnyH_take (i := 7) (v := ?vv50) (by rfl) (by kernel_rfl) (by kernel_rfl) (by kernel_rfl) (by intro _ _ _ h; exact h) (Or.inl ⟨by kernel_rfl, ?hy50⟩) (by assumption) ?rest50
      case hy50 =>
        intro w' hSw
        have hSw : Keeps x2 w' := hSw
        clear hSw
        go_simp
        try with_reducible rfl
      change wpAnyH _ _ _ _ _ _ _ (Act.put _ (some 23) _) _
      try simp only [Act.put, List.setIfInBounds_toArray, List.set_cons_zero, List.set_cons_succ]
      refine wpAnyH_take (i := 8) (v := ?vv51) (by rfl) (by kernel_rfl) (by kernel_rfl) (by kernel_rfl) (by intro _ _ _ h; exact h) (Or.inl ⟨by kernel_rfl, ?hy51⟩) (by assumption) ?rest51
      case hy51 =>
        intro w' hSw
        have hSw : Keeps x2 w' := hSw
        clear hSw
        go_simp
        try with_reducible rfl
      change wpAnyH _ _ _ _ _ _ _ (Act.put _ (some 24) _) _
      try simp only [Act.put, List.setIfInBounds_toArray, List.set_cons_zero, List.set_cons_succ]
      refine wpAnyH_take (i := 9) (by rfl) (by kernel_rfl) (by kernel_rfl) (by kernel_rfl) (by intro _ _ _ h; exact h) (yieldsIf_ld (by kernel_rfl) recM (fun w' hS => HB.out.keeps hS) _ rfl rfl) (by assumption) ?rest52
      change wpAnyH _ _ _ _ _ _ _ (Act.put _ (some 25) _) _
      try simp only [Act.put, List.setIfInBounds_toArray, List.set_cons_zero, List.set_cons_succ]
      refine wpAnyH_ready (rs := [10]) (by kernel_rfl) (by simp) ?_
      refine AllReadyH.cons (o := _) rfl (fun K hK => ?_) ?_
      · go_simp
        refine (HLB.out _ (HRB.out.keeps (HK.out.trans hHeld))).mono ?_
        rintro e y2 ⟨rfl, hk⟩
        have hb := hHeld.trans hk
        clear hk
        go_wp2_with fail
        refine hK.out _ _ hb (fun _ => ?_)
        clear hK K hHeld
        have hHeld : Keeps x2 y2 := hb
        clear hb
        try simp only [Act.put, List.setIfInBounds_toArray, List.set_cons_zero, List.set_cons_succ]
        refine wpAnyH_take (i := 11) (v := ?vv53) (by rfl) (by kernel_rfl) (by kernel_rfl) (by kernel_rfl) (by intro _ _ _ h; exact h) (Or.inl ⟨by kernel_rfl, ?hy53⟩) (by assumption) ?rest53
        case hy53 =>
          intro w' hSw
          have hSw : Keeps x2 w' := hSw
          clear hSw
          go_simp
          try with_reducible rfl
        change wpAnyH _ _ _ _ _ _ _ (Act.put _ (some 27) _) _
        try simp only [Act.put, List.setIfInBounds_toArray, List.set_cons_zero, List.set_cons_succ]
        refine wpAnyH_take (i := 12) (v := ?vv54) (by rfl) (by kernel_rfl) (by kernel_rfl) (by kernel_rfl) (by intro _ _ _ h; exact h) (Or.inl ⟨by kernel_rfl, ?hy54⟩) (by assumption) ?rest54
        case hy54 =>
          intro w' hSw
          have hSw : Keeps x2 w' := hSw
          clear hSw
          go_simp
          try with_reducible rfl
        change wpAnyH _ _ _ _ _ _ _ (Act.put _ (some 28) _) _
        try simp only [Act.put, List.setIfInBounds_toArray, List.set_cons_zero, List.set_cons_succ]
        refine wpAnyH_take (i := 13) (v := ?vv55) (by rfl) (by kernel_rfl) (by kernel_rfl) (by kernel_rfl) (by intro _ _ _ h; exact h) (Or.inl ⟨by kernel_rfl, ?hy55⟩) (by assumption) ?rest55
        case hy55 =>
          intro w' hSw
          have hSw : Keeps x2 w' := hSw
          clear hSw
          go_simp
          try with_reducible rfl
        change wpAnyH _ _ _ _ _ _ _ (Act.put _ (some 29) _) _
        try simp only [Act.put, List.setIfInBounds_toArray, List.set_cons_zero, List.set_cons_succ]
        refine wpAnyH_take (i := 14) (by rfl) (by kernel_rfl) (by kernel_rfl) (by kernel_rfl) (by intro _ _ _ h; exact h) (Or.inr ⟨by kernel_rfl, rfl⟩) (by assumption) ?rest56
        change wpAnyH _ _ _ _ _ _ _ (Act.put _ (some 30) _) _
        try simp only [Act.put, List.setIfInBounds_toArray, List.set_cons_zero, List.set_cons_succ]
        refine wpAnyH_take (i := 15) (by rfl) (by kernel_rfl) (by kernel_rfl) (by kernel_rfl) (by intro _ _ _ h; exact h) (Or.inr ⟨by kernel_rfl, rfl⟩) (by assumption) ?rest57
        change wpAnyH _ _ _ _ _ _ _ (Act.put _ (some 31) _) _
        try simp only [Act.put, List.setIfInBounds_toArray, List.set_cons_zero, List.set_cons_succ]
        refine wpAnyH_take (i := 16) (by rfl) (by kernel_rfl) (by kernel_rfl) (by kernel_rfl) (by intro _ _ _ h; exact h) (Or.inr ⟨by kernel_rfl, rfl⟩) (by assumption) ?rest58
        change wpAnyH _ _ _ _ _ _ _ (Act.put _ (some 32) _) _
        try simp only [Act.put, List.setIfInBounds_toArray, List.set_cons_zero, List.set_cons_succ]
        refine wpAnyH_take (i := 17) (by rfl) (by kernel_rfl) (by kernel_rfl) (by kernel_rfl) (by intro _ _ _ h; exact h) (Or.inr ⟨by kernel_rfl, rfl⟩) (by assumption) ?rest59
        change wpAnyH _ _ _ _ _ _ _ (Act.put _ (some 33) _) _
        try simp only [Act.put, List.setIfInBounds_toArray, List.set_cons_zero, List.set_cons_succ]
        refine wpAnyH_take (i := 18) (by rfl) (by kernel_rfl) (by kernel_rfl) (by kernel_rfl) (by intro _ _ _ h; exact h) (Or.inr ⟨by kernel_rfl, rfl⟩) (by assumption) ?rest60
        change wpAnyH _ _ _ _ _ _ _ (Act.put _ (some 34) _) _
        try simp only [Act.put, List.setIfInBounds_toArray, List.set_cons_zero, List.set_cons_succ]
        refine wpAnyH_take (i := 19) (by rfl) (by kernel_rfl) (by kernel_rfl) (by kernel_rfl) (by intro _ _ _ h; exact h) (Or.inr ⟨by kernel_rfl, rfl⟩) (by assumption) ?rest61
        change wpAnyH _ _ _ _ _ _ _ (Act.put _ (some 35) _) _
        try simp only [Act.put, List.setIfInBounds_toArray, List.set_cons_zero, List.set_cons_succ]
        refine wpAnyH_take (i := 20) (by rfl) (by kernel_rfl) (by kernel_rfl) (by kernel_rfl) (by intro _ _ _ h; exact h) (Or.inr ⟨by kernel_rfl, rfl⟩) (by assumption) ?rest62
        change wpAnyH _ _ _ _ _ _ _ (Act.put _ (some 36) _) _
        try simp only [Act.put, List.setIfInBounds_toArray, List.set_cons_zero, List.set_cons_succ]
        refine wpAnyH_take (i := 21) (v := ?vv63) (by rfl) (by kernel_rfl) (by kernel_rfl) (by kernel_rfl) (by intro _ _ _ h; exact h) (Or.inl ⟨by kernel_rfl, ?hy63⟩) (by assumption) ?rest63
        case hy63 =>
          intro w' hSw
          have hSw : Keeps x2 w' := hSw
          clear hSw
          go_simp
          try with_reducible rfl
        change wpAnyH _ _ _ _ _ _ _ (Act.put _ (some 37) _) _
        try simp only [Act.put, List.setIfInBounds_toArray, List.set_cons_zero, List.set_cons_succ]
        refine wpAnyH_done (by kernel_rfl) ?_ _
        refine NoPanic.normal ?_
        have HKE := Lib.hid (HK.out.trans hHeld)
        have HAE := Lib.hid (HA.out.keeps hHeld)
        have HBE := Lib.hid (HB.out.keeps hHeld)
        obtain ⟨a0, a1, a2, a3, a4, a5, a6, a7, a8, a9, a10, a11⟩ := rec12 HAE.out
        go_wp2_with fail
        refine (HLA.out _ (HRA.out.keeps HKE.out)).mono ?_
        rintro e y3 ⟨rfl, hk⟩
        have HKE := Lib.hid (HKE.out.trans hk)
        have HBE := Lib.hid (HBE.out.keeps hk)
        clear hk
        obtain ⟨b0, b1, b2, b3, b4, b5, b6, b7, b8, b9, b10, b11⟩ := rec12 HBE.out
        go_wp2_with fail
        refine (HLB.out _ (HRB.out.keeps HKE.out)).mono ?_
        rintro e y4 ⟨rfl, hk⟩
        go_wp2_with fail
        go_ret
        exact ⟨rfl, HKE.out.trans hk⟩
      exact AllReadyH.nil
    exact AllReadyH.nil
  | true =>
  go_upto_region 3 with fail
  go_cut [37] (fun t wx => t = .bool false ∧ Keeps x2 wx)
  case first =>
    refine wp_region_noPanic ?_
    refine wp_region_held_drew (S := fun w' => Keeps x2 w') (by kernel_rfl) ((Keeps.refl x2).drew) (fun _ => ?_)
    have hHeld : Keeps x2 (x2).drew := (Keeps.refl x2).drew
    generalize World.drew x2 = xs at *
    refine wpAnyH_take (i := 0) (v := ?vv64) (by rfl) (by kernel_rfl) (by kernel_rfl) (by kernel_rfl) (by intro _ _ _ h; exact h) (Or.inl ⟨by kernel_rfl, ?hy64⟩) (by assumption) ?rest64
    case hy64 =>
      intro w' hSw
      have hSw : Keeps x2 w' := hSw
      clear hSw
      go_simp
      try with_reducible rfl
    change wpAnyH _ _ _ _ _ _ _ (Act.put _ (some 16) _) _
    try simp only [Act.put, List.setIfInBounds_toArray, List.set_cons_zero, List.set_cons_succ]
    refine wpAnyH_take (i := 1) (v := ?vv65) (by rfl) (by kernel_rfl) (by kernel_rfl) (by kernel_rfl) (by intro _ _ _ h; exact h) (Or.inl ⟨by kernel_rfl, ?hy65⟩) (by assumption) ?rest65
    case hy65 =>
      intro w' hSw
      have hSw : Keeps x2 w' := hSw
      clear hSw
      go_simp
      try with_reducible rfl
    change wpAnyH _ _ _ _ _ _ _ (Act.put _ (some 17) _) _
    try simp only [Act.put, List.setIfInBounds_toArray, List.set_cons_zero, List.set_cons_succ]
    refine wpAnyH_take (i := 2) (v := ?vv66) (by rfl) (by kernel_rfl) (by kernel_rfl) (by kernel_rfl) (by intro _ _ _ h; exact h) (Or.inl ⟨by kernel_rfl, ?hy66⟩) (by assumption) ?rest66
    case hy66 =>
      intro w' hSw
      have hSw : Keeps x2 w' := hSw
      clear hSw
      go_simp
      try with_reducible rfl
    change wpAnyH _ _ _ _ _ _ _ (Act.put _ (some 18) _) _
    try simp only [Act.put, List.setIfInBounds_toArray, List.set_cons_zero, List.set_cons_succ]
    refine wpAnyH_take (i := 3) (v := ?vv67) (by rfl) (by kernel_rfl) (by kernel_rfl) (by kernel_rfl) (by intro _ _ _ h; exact h) (Or.inl ⟨by kernel_rfl, ?hy67⟩) (by assumption) ?rest67
    case hy67 =>
      intro w' hSw
      have hSw : Keeps x2 w' := hSw
      clear hSw
      go_simp
      try with_reducible rfl
    change wpAnyH _ _ _ _ _ _ _ (Act.put _ (some 19) _) _
    try simp only [Act.put, List.setIfInBounds_toArray, List.set_cons_zero, List.set_cons_succ]
    refine wpAnyH_take (i := 4) (by rfl) (by kernel_rfl) (by kernel_rfl) (by kernel_rfl) (by intro _ _ _ h; exact h) (yieldsIf_ld (by kernel_rfl) recM (fun w' hS => HA.out.keeps hS) _ rfl rfl) (by assumption) ?rest68
    change wpAnyH _ _ _ _ _ _ _ (Act.put _ (some 20) _) _
    try simp only [Act.put, List.setIfInBounds_toArray, List.set_cons_zero, List.set_cons_succ]
    refine wpAnyH_ready (rs := [5]) (by kernel_rfl) (by simp) ?_
    refine AllReadyH.cons (o := _) rfl (fun K hK => ?_) ?_
    · go_simp
      refine (HLA.out _ (HRA.out.keeps (HK.out.trans hHeld))).mono ?_
      rintro e y1 ⟨rfl, hk⟩
      have hb := hHeld.trans hk
      clear hk
      go_wp2_with fail
      refine hK.out _ _ hb (fun _ => ?_)
      clear hK K hHeld
      have hHeld : Keeps x2 y1 := hb
      clear hb
      try simp only [Act.put, List.setIfInBounds_toArray, List.set_cons_zero, List.set_cons_succ]
      refine wpAnyH_take (i := 6) (v := ?vv69) (by rfl) (by kernel_rfl) (by kernel_rfl) (by kernel_rfl) (by intro _ _ _ h; exact h) (Or.inl ⟨by kernel_rfl, ?hy69⟩) (by assumption) ?rest69
      case hy69 =>
        intro w' hSw
        have hSw : Keeps x2 w' := hSw
        clear hSw
        go_simp
        try with_reducible rfl
      change wpAnyH _ _ _ _ _ _ _ (Act.put _ (some 22) _) _
      try simp only [Act.put, List.setIfInBounds_toArray, List.set_cons_zero, List.set_cons_succ]
      refine wpAnyH_take (i := 7) (v := ?vv70) (by rfl) (by kernel_rfl) (by kernel_rfl) (by kernel_rfl) (by intro _ _ _ h; exact h) (Or.inl ⟨by kernel_rfl, ?hy70⟩) (by assumption) ?rest70
      case hy70 =>
        intro w' hSw
        have hSw : Keeps x2 w' := hSw
        clear hSw
        go_simp
        try with_reducible rfl
      change wpAnyH _ _ _ _ _ _ _ (Act.put _ (some 23) _) _
      try simp only [Act.put, List.setIfInBounds_toArray, List.set_cons_zero, List.set_cons_succ]
      refine wpAnyH_take (i := 8) (v := ?vv71) (by rfl) (by kernel_rfl) (by kernel_rfl) (by kernel_rfl) (by intro _ _ _ h; exact h) (Or.inl ⟨by kernel_rfl, ?hy71⟩) (by assumption) ?rest71
      case hy71 =>
        intro w' hSw
        have hSw : Keeps x2 w' := hSw
        clear hSw
        go_simp
        try with_reducible rfl
      change wpAnyH _ _ _ _ _ _ _ (Act.put _ (some 24) _) _
      try simp only [Act.put, List.setIfInBounds_toArray, List.set_cons_zero, List.set_cons_succ]
      refine wpAnyH_take (i := 9) (by rfl) (by kernel_rfl) (by kernel_rfl) (by kernel_rfl) (by intro _ _ _ h; exact h) (yieldsIf_ld (by kernel_rfl) recM (fun w' hS => HB.out.keeps hS) _ rfl rfl) (by assumption) ?rest72
      change wpAnyH _ _ _ _ _ _ _ (Act.put _ (some 25) _) _
      try simp only [Act.put, List.setIfInBounds_toArray, List.set_cons_zero, List.set_cons_succ]
      refine wpAnyH_ready (rs := [10]) (by kernel_rfl) (by simp) ?_
      refine AllReadyH.cons (o := _) rfl (fun K hK => ?_) ?_
      · go_simp
        refine (HLB.out _ (HRB.out.keeps (HK.out.trans hHeld))).mono ?_
        rintro e y2 ⟨rfl, hk⟩
        have hb := hHeld.trans hk
        clear hk
        go_wp2_with fail
        refine hK.out _ _ hb (fun _ => ?_)
        clear hK K hHeld
        have hHeld : Keeps x2 y2 := hb
        clear hb
        try simp only [Act.put, List.setIfInBounds_toArray, List.set_cons_zero, List.set_cons_succ]
        refine wpAnyH_take (i := 11) (v := ?vv73) (by rfl) (by kernel_rfl) (by kernel_rfl) (by kernel_rfl) (by intro _ _ _ h; exact h) (Or.inl ⟨by kernel_rfl, ?hy73⟩) (by assumption) ?rest73
        case hy73 =>
          intro w' hSw
          have hSw : Keeps x2 w' := hSw
          clear hSw
          go_simp
          try with_reducible rfl
        change wpAnyH _ _ _ _ _ _ _ (Act.put _ (some 27) _) _
        try simp only [Act.put, List.setIfInBounds_toArray, List.set_cons_zero, List.set_cons_succ]
        refine wpAnyH_take (i := 12) (v := ?vv74) (by rfl) (by kernel_rfl) (by kernel_rfl) (by kernel_rfl) (by intro _ _ _ h; exact h) (Or.inl ⟨by kernel_rfl, ?hy74⟩) (by assumption) ?rest74
        case hy74 =>
          intro w' hSw
          have hSw : Keeps x2 w' := hSw
          clear hSw
          go_simp
          try with_reducible rfl
        change wpAnyH _ _ _ _ _ _ _ (Act.put _ (some 28) _) _
        try simp only [Act.put, List.setIfInBounds_toArray, List.set_cons_zero, List.set_cons_succ]
        refine wpAnyH_take (i := 13) (v := ?vv75) (by rfl) (by kernel_rfl) (by kernel_rfl) (by kernel_rfl) (by intro _ _ _ h; exact h) (Or.inl ⟨by kernel_rfl, ?hy75⟩) (by assumption) ?rest75
        case hy75 =>
          intro w' hSw
          have hSw : Keeps x2 w' := hSw
          clear hSw
          go_simp
          try with_reducible rfl
        change wpAnyH _ _ _ _ _ _ _ (Act.put _ (some 29) _) _
        try simp only [Act.put, List.setIfInBounds_toArray, List.set_cons_zero, List.set_cons_succ]
        refine wpAnyH_take (i := 14) (by rfl) (by kernel_rfl) (by kernel_rfl) (by kernel_rfl) (by intro _ _ _ h; exact h) (yieldsIf_ld (by kernel_rfl) recM (fun w' hS => HA.out.keeps hS) _ rfl rfl) (by assumption) ?rest76
        change wpAnyH _ _ _ _ _ _ _ (Act.put _ (some 30) _) _
        try simp only [Act.put, List.setIfInBounds_toArray, List.set_cons_zero, List.set_cons_succ]
        refine wpAnyH_take (i := 15) (by rfl) (by kernel_rfl) (by kernel_rfl) (by kernel_rfl) (by intro _ _ _ h; exact h) (yieldsIf_ld (by kernel_rfl) recM (fun w' hS => HB.out.keeps hS) _ rfl rfl) (by assumption) ?rest77
        change wpAnyH _ _ _ _ _ _ _ (Act.put _ (some 31) _) _
        try simp only [Act.put, List.setIfInBounds_toArray, List.set_cons_zero, List.set_cons_succ]
        refine wpAnyH_take (i := 17) (by rfl) (by kernel_rfl) (by kernel_rfl) (by kernel_rfl) (by intro _ _ _ h; exact h) (yieldsIf_ld (by kernel_rfl) recM (fun w' hS => HA.out.keeps hS) _ rfl rfl) (by assumption) ?rest78
        change wpAnyH _ _ _ _ _ _ _ (Act.put _ (some 33) _) _
        try simp only [Act.put, List.setIfInBounds_toArray, List.set_cons_zero, List.set_cons_succ]
        refine wpAnyH_take (i := 18) (by rfl) (by kernel_rfl) (by kernel_rfl) (by kernel_rfl) (by intro _ _ _ h; exact h) (yieldsIf_ld (by kernel_rfl) recM (fun w' hS => HB.out.keeps hS) _ rfl rfl) (by assumption) ?rest79
        change wpAnyH _ _ _ _ _ _ _ (Act.put _ (some 34) _) _
        try simp only [Act.put, List.setIfInBounds_toArray, List.set_cons_zero, List.set_cons_succ]
        refine wpAnyH_ready (rs := [16]) (by kernel_rfl) (by simp) ?_
        refine AllReadyH.cons (o := _) rfl (fun K hK => ?_) ?_
        · go_simp
          refine (HS1.out _ (HRA.out.keeps (HK.out.trans hHeld)) (HRB.out.keeps (HK.out.trans hHeld))).mono ?_
          rintro e y3 ⟨rfl, hk⟩
          have hb := hHeld.trans hk
          clear hk
          go_wp2_with fail
          refine hK.out _ _ hb (fun _ => ?_)
          clear hK K hHeld
          have hHeld : Keeps x2 y3 := hb
          clear hb
          try simp only [Act.put, List.setIfInBounds_toArray, List.set_cons_zero, List.set_cons_succ]
          refine wpAnyH_ready (rs := [19]) (by kernel_rfl) (by simp) ?_
          refine AllReadyH.cons (o := _) rfl (fun K hK => ?_) ?_
          · go_simp
            refine (HS2.out _ (HRA.out.keeps (HK.out.trans hHeld)) (HRB.out.keeps (HK.out.trans hHeld))).mono ?_
            rintro e y4 ⟨rfl, hk⟩
            have hb := hHeld.trans hk
            clear hk
            go_wp2_with fail
            refine hK.out _ _ hb (fun _ => ?_)
            clear hK K hHeld
            have hHeld : Keeps x2 y4 := hb
            clear hb
            try simp only [Act.put, List.setIfInBounds_toArray, List.set_cons_zero, List.set_cons_succ]
            refine wpAnyH_take (i := 20) (v := ?vv80) (by rfl) (by kernel_rfl) (by kernel_rfl) (by kernel_rfl) (by intro _ _ _ h; exact h) (Or.inl ⟨by kernel_rfl, ?hy80⟩) (by assumption) ?rest80
            case hy80 =>
              intro w' hSw
              have hSw : Keeps x2 w' := hSw
              clear hSw
              go_simp
              try with_reducible rfl
            change wpAnyH _ _ _ _ _ _ _ (Act.put _ (some 36) _) _
            try simp only [Act.put, List.setIfInBounds_toArray, List.set_cons_zero, List.set_cons_succ]
            refine wpAnyH_take (i := 21) (v := ?vv81) (by rfl) (by kernel_rfl) (by kernel_rfl) (by kernel_rfl) (by intro _ _ _ h; exact h) (Or.inl ⟨by kernel_rfl, ?hy81⟩) (by assumption) ?rest81
            case hy81 =>
              intro w' hSw
              have hSw : Keeps x2 w' := hSw
              clear hSw
              go_simp
              try with_reducible rfl
            change wpAnyH _ _ _ _ _ _ _ (Act.put _ (some 37) _) _
            try simp only [Act.put, List.setIfInBounds_toArray, List.set_cons_zero, List.set_cons_succ]
            refine wpAnyH_done (by kernel_rfl) ?_ _
            refine NoPanic.normal ?_
            go_wp2_with fail
            go_meet
            exact ⟨by simp, hHeld⟩
          exact AllReadyH.nil
        exact AllReadyH.nil
      exact AllReadyH.nil
    exact AllReadyH.nil
  case rest =>
  obtain ⟨rfl, hkc⟩ := hcut
  obtain ⟨wz, rfl⟩ : ∃ wz : World, wz = wc := ⟨_, rfl⟩
  have HK := Lib.hid (HK.out.trans hkc)
  clear hkc HA HB HLA HLB HS1 HS2 HRA HRB
  go_wp2_with fail
  go_loopw [7, 8, 9] (fun bv iv i wr => ∃ (j : Nat) (pq : Option Addr) (cq : Nat) (p8 : Option Addr) (c8 : Nat), i = .int .i64 (j : Int) ∧ j ≤ l.length ∧ bv = .slice pq (catX (l.take j)).length cq ∧ iv = .slice p8 (inX (l.take j) 0).length c8 ∧ Hid ((∀ y ∈ l.take j, y.1.data.length ≤ 1000) ∧ Keeps W wr ∧ Own wr W.heap.size 5 bv ((catX (l.take j)).map u8v) ∧ wr.ownsRow W.heap.size 82 14 iv (inX (l.take j) 0).length ((inX (l.take j) 0).flatMap fndC))) (fun _ _ i _ => l.length - (intOf i).toNat)
  case atStart => exact ⟨0, none, 0, none, 0, rfl, Nat.zero_le _, rfl, rfl, Lib.hid ⟨by simp, HK.out, Own.nil _ _ _, World.ownsRow_nil _ _ _ 14⟩⟩
  case round =>
    obtain ⟨j, pq, cq, p8, c8, rfl, hj, rfl, rfl, HH⟩ := hrel
    clear HK
    by_cases hlt : j < l.length
    · obtain ⟨bb, off, cap, hv, hrg⟩ := rowS_rec (RowS.keeps HR0.out HH.out.2.1) hlt
      simp only [Value.slice.injEq] at hv
      obtain ⟨rfl, -, rfl⟩ := hv
      have hrow := (HW0.out l[j] (List.getElem_mem hlt))
      have HRG := Lib.hid hrg
      have HRW := Lib.hid hrow
      have hT : l.take (j + 1) = l.take j ++ [l[j]] := List.take_succ_eq_append_getElem hlt
      have HCX := Lib.hid (catX_snoc l[j] (l.take j))
      have HIX := Lib.hid (inX_snoc l[j] (l.take j) 0)
      rw [← hT] at HCX HIX
      have HLJ : Hid ((∀ y ∈ l.take j, y.1.data.length ≤ 1000) → l[j].1.data.length ≤ 1000 → ∀ y ∈ l.take (j + 1), y.1.data.length ≤ 1000) := Lib.hid (fun h1 h2 y hy => by
        rw [hT, List.mem_append] at hy
        rcases hy with hy | hy
        · exact h1 y hy
        · rw [List.mem_singleton.1 hy]; exact h2)
      clear hrg hrow hT
      have hrl : l.length ≤ 20 := by omega
      have HCL : Hid ((∀ y ∈ l.take j, y.1.data.length ≤ 1000) → (catX (l.take j)).length ≤ 2300 * j) := Lib.hid (fun h => catX_len _ _ h (by rw [List.length_take]; omega))
      have HIL : Hid ((inX (l.take j) 0).length ≤ j) := Lib.hid (Nat.le_trans (inX_len _ _) (by rw [List.length_take]; omega))
      generalize l[j] = xx at *
      obtain ⟨rc, dv⟩ := xx
      simp only at HRG HRW HCX HIX HLJ
      obtain ⟨pd, nd, cd, rfl⟩ : ∃ p n c, dv = .slice p n c := let ⟨p, c, h, _⟩ := HRW.out.form; ⟨p, _, c, h⟩
      have HG : Hid (wr.rangeAt bb (off + j * 12) [.int .i64 rc.kind, .int .i64 rc.user, .int .i64 rc.seq, .int .i64 rc.next, .int .i64 rc.base, .int .i64 rc.uid, .int .i64 rc.time, .int .i64 rc.flags, .int .i64 rc.body, .int .i64 rc.size, .int .i64 rc.origin, .slice pd nd cd]) := Lib.hid HRG.out
      clear HRG
      generalize catX (l.take j) = cb0 at *
      generalize inX (l.take j) 0 = il at *
      obtain ⟨hlight, hK, hOb, hOi⟩ := HH.out
      have hcl := HCL.out hlight
      have hil := HIL.out
      have HLt := Lib.hid hlight
      have HK := Lib.hid hK
      have HOb := Lib.hid hOb
      have HOi := Lib.hid hOi
      clear HH hlight hK hOb hOi HCL HIL
      go_wp2_with (refine wpList_ldR rfl recM HG.out _ rfl rfl ?_)
      refine (light_any rc (.slice pd nd cd) wr (HRW.out.keeps HK.out)).mono ?_
      rintro e y1 ⟨rfl, hk1⟩
      have HG := Lib.hid (range_keeps HG.out hk1)
      have HK := Lib.hid (HK.out.trans hk1)
      have HOb := Lib.hid (HOb.out.keeps hk1)
      have HOi := Lib.hid (ownsRow_keeps HOi.out hk1)
      clear hk1
      by_cases hdl : rc.data.length ≤ 1000
      case neg =>
        rw [decide_eq_false hdl]
        go_wp2_with fail
        go_ret
        exact ⟨rfl, HK.out⟩
      rw [decide_eq_true hdl]
      go_wp2_with (refine wpList_ldR rfl recM HG.out _ rfl rfl ?_)
      refine (frame_any rc (.slice pd nd cd) y1 (HRW.out.keeps HK.out)).mono ?_
      rintro e y2 ⟨fv, rfl, ho2, hk2⟩
      obtain ⟨pf, cf, rfl, -, -⟩ := ho2.row.form
      have hnl : (List.map u8v (frmL rc)).length = (frmL rc).length := by simp
      rw [hnl] at ho2 ⊢
      have HOf := Lib.hid ho2
      have HG := Lib.hid (range_keeps HG.out hk2)
      have HK := Lib.hid (HK.out.trans hk2)
      have HOb := Lib.hid (HOb.out.keeps hk2)
      have HOi := Lib.hid (ownsRow_keeps HOi.out hk2)
      clear hk2 ho2 hnl
      go_wp2_with (refine wpList_ldR rfl recM HG.out _ rfl rfl ?_)
      refine (check_any rc (.slice pd nd cd) y2 (HRW.out.keeps HK.out)).mono ?_
      rintro e y3 ⟨rfl, hk3⟩
      have HG := Lib.hid (range_keeps HG.out hk3)
      have HK := Lib.hid (HK.out.trans hk3)
      have HOb := Lib.hid (HOb.out.keeps hk3)
      have HOi := Lib.hid (ownsRow_keeps HOi.out hk3)
      have HOf := Lib.hid (HOf.out.keeps hk3)
      clear hk3
      have hfl := frm_len hdl
      have HLN := Lib.hid (HLJ.out HLt.out hdl)
      clear HLJ HLt hdl
      have hbad := frmL_bad (r := rc)
      have HBad := Lib.hid hbad
      clear hbad
      generalize frmL rc = fb at *
      by_cases hc : chk rc = 0
      · rw [if_pos hc, Nat.zero_add] at HIX
        rw [hc]
        clear hc HBad
        have hsz := HK.out.size
        go_wp2_with (first
          | refine wpList_ldR rfl recM HG.out _ rfl rfl ?_
          | (at_builtin; refine wpList_apps (base := W.heap.size) fndok (by decide) rfl _ _ rfl (.slice p8 il.length c8) (.slice (some ⟨y3.heap.size, 0, none⟩) 1 1) il.length 1 (il.flatMap fndC) (fndC (⟨(cb0.length : Int), (fb.length : Int), rc⟩, .slice pd nd cd)) rfl rfl (ownsRow_keeps HOi.out ((Keeps.refl _).alloc _)) (rowS_lit rfl rfl rfl) (by simp [fndC, Value.oneCell']) (by omega) (by decide) (by rw [asz]; omega) ?_; intro v4 y4 ho4 hg4 hf4; obtain ⟨p4, c4, rfl, -, -⟩ := ownsRow_form ho4; have HO4 := Lib.hid ho4; have HOb4 := Lib.hid (rowGrown (HOb.out.alloc (Obj.cells (fndC (⟨(cb0.length : Int), (fb.length : Int), rc⟩, .slice pd nd cd)).toArray 82)) (ownsRow_keeps HOi.out ((Keeps.refl _).alloc _)) (by decide) hg4); have HOf4 := Lib.hid (rowGrown (HOf.out.alloc (Obj.cells (fndC (⟨(cb0.length : Int), (fb.length : Int), rc⟩, .slice pd nd cd)).toArray 82)) (ownsRow_keeps HOi.out ((Keeps.refl _).alloc _)) (by decide) hg4); have HK4 := Lib.hid ((HK.out.alloc _).grown hg4 (ownsRow_base HOi.out)); have hsz4 := HK4.out.size; clear ho4 hg4 hf4)
          | (at_builtin; refine wpList_app1 (base := W.heap.size) u8ok rfl _ _ rfl (.slice pq cb0.length cq) (.slice pf fb.length cf) (cb0.map u8v) (fb.map u8v) rfl rfl HOb4.out (Own.row HOf4.out) (oneCell_map_u8 _) (by simp only [List.length_map]; omega) (by decide) hsz4 ?_; intro v5 y5 ho5 hg5 hf5; obtain ⟨p5, c5, rfl, -, -⟩ := ho5.row.form; have HO5 := Lib.hid ho5; have HO45 := Lib.hid (rowGrown HO4.out HOb4.out (by decide) hg5); have HK5 := Lib.hid (HK4.out.grown hg5 (ownsRow_base HOb4.out)); clear ho5 hg5 hf5))
        go_roundw
        case rel =>
          have e1 : cb0.length + fb.length = (catX (l.take (j + 1))).length := by rw [HCX.out]; simp
          have e0 : (List.map u8v cb0 ++ List.map u8v fb).length = cb0.length + fb.length := by simp
          have e2 : il.length + 1 = (inX (l.take (j + 1)) 0).length := by rw [HIX.out]; simp
          refine ⟨j + 1, p5, c5, p4, c4, by simp, by omega, by rw [e1], by rw [e2], Lib.hid ⟨HLN.out, HK5.out, ?_, ?_⟩⟩
          · rw [e1, HCX.out, List.map_append]
            have := HO5.out
            rw [e0, e1, HCX.out] at this
            exact this
          · rw [e2, HIX.out]
            have := HO45.out
            rw [e2, HIX.out] at this
            simpa using this
        case measure =>
          simp only [intOf]
          omega
      · rw [if_neg hc, List.append_nil] at HIX
        have hfb := HBad.out hc
        subst hfb
        rw [List.append_nil] at HCX
        have hc' : (chk rc == 0) = false := by simp [hc]
        clear hc HBad
        generalize chk rc = ch at *
        go_wp2_with fail
        go_roundw
        case rel =>
          refine ⟨j + 1, pq, cq, p8, c8, by simp, by omega, by rw [HCX.out], by rw [HIX.out], Lib.hid ⟨HLN.out, HK.out, ?_, ?_⟩⟩
          · rw [HCX.out]; exact HOb.out
          · rw [HIX.out]; exact HOi.out
        case measure =>
          simp only [intOf]
          omega
    · obtain rfl : j = l.length := by omega
      rw [List.take_length] at *
      obtain ⟨hlight, hK, hOb, hOi⟩ := HH.out
      have hcl := catX_len l l.length hlight (Nat.le_refl _)
      have hil := inX_len l 0
      obtain ⟨hsa, hsb⟩ := scan_all l
      have HK := Lib.hid hK
      have HSC := Lib.hid (rcScan_any _ (catX l) wr hOb.row (by omega))
      have HIN : Hid (FndsR wr W.heap.size (.slice p8 (inX l 0).length c8) (inX l 0)) := Lib.hid ⟨hOi, fun x hx => by
        obtain ⟨y, hy, e1, e2⟩ := inX_mem l 0 x hx
        rw [e1, e2]
        exact (HW0.out y hy).keeps hK⟩
      unfold RecScanDid at HSC
      rw [hsa, hsb] at HSC
      have hz : ((catX l).length : Int) - ((catX l).length : Int) = 0 := by omega
      rw [hz] at HSC
      have HIL := Lib.hid hil
      have HLL : Hid (l.length ≤ 20) := Lib.hid (by omega)
      clear HH hlight hK hOb hOi hcl hil hsa hsb hz
      generalize inX l 0 = il at *
      generalize catX l = cb0 at *
      go_wp2_with fail
      refine HSC.out.mono ?_
      rintro e y1 ⟨v1, fl, rfl, hf1, hm1, hk1⟩
      obtain ⟨p1, c1, rfl, -, -⟩ := ownsRow_form hf1.own
      have HSL := Lib.hid (sameLot_any _ _ fl il _ _ y1 hf1.r (HIN.out.keeps hk1) hm1 (by have h1 := congrArg List.length hm1; rw [List.length_map, List.length_map] at h1; have := HIL.out; have := HLL.out; omega))
      have HK := Lib.hid (HK.out.trans hk1)
      clear hf1 hm1 hk1 HSC HIN
      go_wp2_with fail
      refine HSL.out.mono ?_
      rintro e y2 ⟨rfl, hk2⟩
      go_wp2_with fail
      go_ret
      exact ⟨rfl, HK.out.trans hk2⟩
end Rcd
end Go.Proofs.Ytekkjhjaacjhnaa
