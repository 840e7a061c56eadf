/- ref20.Take. -/
import Derived.Test.YtohchhgheeolpaaK29
import Derived.Test.YtohchhgheeolpaaK12
import Derived.Test.YtohchhgheeolpaaK17
import Derived.Test.YtohchhgheeolpaaK26
namespace Go.Proofs.Ytohchhgheeolpaa
open Go.RowKit
namespace Mbx
open Rcd Go.Maps

theorem EntsAt.lower {w : World} {base base' : Nat} {v : Value} {l : List Ent} (h : EntsAt w base v l) (hb : base' ≤ base) : EntsAt w base' v l := ⟨h.1, h.2.imp id (fun ⟨g, cap, cur, hv, hg, r⟩ => ⟨g, cap, cur, hv, Nat.le_trans hb hg, r⟩)⟩
/-- entries of a slice of the call's own, or nil -/
structure TSt (w x : World) (q : Nat) (bv : Value) (nx : Int) (ra : Array Value) : Prop where
  keeps : Keeps w x
  box : Blk x q 92 #[bv, .int .i64 nx]
  rcd : Blk x (q + 1) 82 ra
  res : Blk x (q + 2) 92 #[.slice none 0 0, .int .i64 0]
section
variable {w x y : World} {q : Nat} {bv : Value} {nx : Int} {ra : Array Value}
theorem TSt.then (h : TSt w x q bv nx ra) (k : Keeps x y) : TSt w y q bv nx ra := ⟨h.keeps.trans k, h.box.keeps k, h.rcd.keeps k, h.res.keeps k⟩
theorem TSt.grown {C n : Nat} {ty : TypeId} {v : Value} {xs : List Value} (h : TSt w x q bv nx ra) (hq : w.heap.size ≤ q) (ho : x.ownsRow (q + 3) ty C v n xs) (hg : x.grownBy y v.ownBlock) : TSt w y q bv nx ra := by
  have hb := Frm.ownsRow_base ho
  have hne : ∀ k, k < q + 3 → v.ownBlock ≠ some k := fun k hk he => by have := hb k he; omega
  exact ⟨h.keeps.grown hg (fun k hk => by have := hb k hk; omega), h.box.grown hg (hne q (by omega)), h.rcd.grown hg (hne (q + 1) (by omega)), h.res.grown hg (hne (q + 2) (by omega))⟩
end
def TakeDid (W : World) (base : Nat) (t : List Ent × Bool) (nx : Int) (e : Ending) (w' : World) : Prop := ∃ v, e = .returned (.tuple #[.agg #[v, .int .i64 nx], .bool t.2]) ∧ EntsAt w' base v t.1 ∧ Keeps W w'

set_option maxRecDepth 100000 in
set_option maxHeartbeats 4000000 in
theorem rTakeBox_any (w : World) {v : Value} {L : List Ent} {m : Box} {n base : Nat} (h : EntsAt w base v L) (hbase : base ≤ w.heap.size) (hs : St m L n) (hn : n ≤ 1000) (hl : L.length ≤ 900000) (r : Rec) (rv : Value) (hr : Row w rv (r.data.map u8v)) : Calls Try.prog 53 #[.agg #[v, .int .i64 m.next], .agg (recA r rv)] w (TakeDid w base (takeL L r) (take m r).1.next) := by
  obtain ⟨p, c, rfl, hc0, hc1⟩ := Frm.ownsRow_form h
  obtain ⟨pv, nv, cv, rfl⟩ : ∃ p n c, rv = .slice p n c := let ⟨p, c, h, _⟩ := hr.form; ⟨p, _, c, h⟩
  have HA := Lib.hid h
  have HST := Lib.hid hs
  have HNO : Hid (takeL L r = (L, false) → ∀ w8, Keeps w w8 → ∀ e, e = .returned (.tuple #[.agg #[.slice p L.length c, .int .i64 m.next], .bool false]) → TakeDid w base (takeL L r) (take m r).1.next e w8) := Lib.hid (fun ht w8 k e he => by
    rw [take_no hs hn ht, ht]
    exact ⟨_, he, h.keeps k, k⟩)
  have HCH := Lib.hid (fun w' (k : Keeps w w') => rCheck_any r (.slice pv nv cv) w' (hr.keeps k))
  have HFI := Lib.hid (fun w' (k : Keeps w w') => rFind_any w' (EntsAt.r (h.keeps k)) m.next r.uid)
  have HUS := Lib.hid (fun w' (k : Keeps w w') => rUse_any w' (EntsAt.r (h.keeps k)) m.next hs.size (by have := hs.inv.b1; rw [hs.rel.ub] at this; omega) (by omega))
  have hnx1 := hs.inv.n1
  have hnx2 := hs.inv.n2
  clear h hs hr
  unfold recA
  go_enter Try.func53, Try.ntmps53
  go_upto_region 1 with fail
  generalize hW : World.alloc (World.alloc (World.alloc w _) _) _ = w1
  have HS := Lib.hid (show TSt w w1 w.heap.size (.slice p L.length c) m.next (recA r (.slice pv nv cv)) from by
    rw [← hW]
    exact ⟨(((Keeps.refl _).alloc _).alloc _).alloc _, ((Blk.new w _ _ rfl).alloc _).alloc _, (Blk.new _ _ _ (by simp)).alloc _, Blk.new _ _ _ (by simp)⟩)
  clear hW
  obtain ⟨q, hq⟩ : ∃ q, q = w.heap.size := ⟨_, rfl⟩
  rw [← hq] at HS hbase ⊢
  have HQ := Lib.hid (show w.heap.size ≤ q from by omega)
  clear hq
  have HFIN : Hid (∀ x (bv : Value) (nx : Int), TSt w x q bv nx (recA r (.slice pv nv cv)) → ∀ y, Blk y (q + 2) 92 #[bv, .int .i64 nx] → Mods (· = q + 2) x y → Keeps w y) := Lib.hid (fun x bv nx h y hb hm => hm.keeps h.keeps (fun k hk => by have := HQ.out; omega))
  obtain ⟨r0, r1, r2, r3, r4, r5, r6, r7, r8, r9, r10, r11⟩ := rec12 HS.out.rcd
  go_wp2_with (refine wpList_ld rfl recM HS.out.rcd _ rfl rfl ?_)
  refine (HCH.out w1 HS.out.keeps).mono ?_
  rintro e w2 ⟨rfl, hk2⟩
  have HS := Lib.hid (HS.out.then hk2)
  clear hk2 HCH r0 r1 r2 r3 r4 r5 r6 r7 r8 r9 r10 r11
  obtain ⟨r0, r1, r2, r3, r4, r5, r6, r7, r8, r9, r10, r11⟩ := rec12 HS.out.rcd
  by_cases hc : chk r = 0
  case neg =>
    have hc' : (chk r != 0) = true := by simp [hc]
    have HT := Lib.hid (takeL_no (L := L) (r := r) (.inl hc))
    go_wp2_with (first
      | refine wpList_ld rfl rboxM HS.out.box _ rfl rfl ?_
      | refine wpList_st (ds := #[.slice p L.length c, .int .i64 m.next]) rfl rboxM HS.out.res rfl (by simp [Value.oneCell']) _ _ rfl rfl rfl rfl ?_; intro w8 hB8 hM8)
    have HLd := Lib.hid (ld_run (P := Try.prog) rboxM hB8)
    have HX := Lib.hid (HFIN.out _ _ _ HS.out w8 hB8 hM8)
    clear hB8 hM8
    exact bodyPost_ret (v := .tuple #[.agg #[.slice p L.length c, .int .i64 m.next], .bool false]) (by simp [results, Try.results53, Sem.run_bind, Sem.run_pure, Result.andThen_ok, Act.put, asAddr, HLd.out]) rfl (HNO.out HT.out w8 HX.out _ rfl)

  have HC := Lib.hid hc
  rw [hc]
  clear hc
  by_cases hk0 : r.kind < 2
  · have e1 : decide (r.kind < 2) = true := decide_eq_true hk0
    have HT := Lib.hid (takeL_no (L := L) (r := r) (.inr (.inl hk0)))
    go_wp2_with (first
      | refine wpList_ld rfl rboxM HS.out.box _ rfl rfl ?_
      | refine wpList_st (ds := #[.slice p L.length c, .int .i64 m.next]) rfl rboxM HS.out.res rfl (by simp [Value.oneCell']) _ _ rfl rfl rfl rfl ?_; intro w8 hB8 hM8)
    have HLd := Lib.hid (ld_run (P := Try.prog) rboxM hB8)
    have HX := Lib.hid (HFIN.out _ _ _ HS.out w8 hB8 hM8)
    clear hB8 hM8
    exact bodyPost_ret (v := .tuple #[.agg #[.slice p L.length c, .int .i64 m.next], .bool false]) (by simp [results, Try.results53, Sem.run_bind, Sem.run_pure, Result.andThen_ok, Act.put, asAddr, HLd.out]) rfl (HNO.out HT.out w8 HX.out _ rfl)

  have e1 : decide (r.kind < 2) = false := decide_eq_false hk0
  by_cases hk4 : 4 < r.kind
  · have e2 : decide (4 < r.kind) = true := decide_eq_true hk4
    have HT := Lib.hid (takeL_no (L := L) (r := r) (.inr (.inr (.inl hk4))))
    go_wp2_with (first
      | refine wpList_ld rfl rboxM HS.out.box _ rfl rfl ?_
      | refine wpList_st (ds := #[.slice p L.length c, .int .i64 m.next]) rfl rboxM HS.out.res rfl (by simp [Value.oneCell']) _ _ rfl rfl rfl rfl ?_; intro w8 hB8 hM8)
    have HLd := Lib.hid (ld_run (P := Try.prog) rboxM hB8)
    have HX := Lib.hid (HFIN.out _ _ _ HS.out w8 hB8 hM8)
    clear hB8 hM8
    exact bodyPost_ret (v := .tuple #[.agg #[.slice p L.length c, .int .i64 m.next], .bool false]) (by simp [results, Try.results53, Sem.run_bind, Sem.run_pure, Result.andThen_ok, Act.put, asAddr, HLd.out]) rfl (HNO.out HT.out w8 HX.out _ rfl)

  have e2 : decide (4 < r.kind) = false := decide_eq_false hk4
  go_wp2_with (refine wpList_ld rfl rboxM HS.out.box _ rfl rfl ?_)
  refine (HFI.out w2 HS.out.keeps).mono ?_
  rintro e w3 ⟨rfl, hk3⟩
  have HS := Lib.hid (HS.out.then hk3)
  clear hk3 HFI e1 e2 r0 r1 r2 r3 r4 r5 r6 r7 r8 r9 r10 r11
  obtain ⟨r0, r1, r2, r3, r4, r5, r6, r7, r8, r9, r10, r11⟩ := rec12 HS.out.rcd
  have m0 : w3.cell? ⟨q, 0, none⟩ = some (.slice p L.length c) := by rw [HS.out.box.cell]; rfl
  have m1 : w3.cell? ⟨q, 1, none⟩ = some (.int .i64 m.next) := by rw [HS.out.box.cell]; rfl
  by_cases hk2 : r.kind = 2
  case pos =>
    have e2 : (r.kind == 2) = true := by simp [hk2]
    rcases findL_spec L r.uid with ⟨hf, ha⟩ | ⟨i, hi, hf, ha, hu⟩
    case inr =>
      rw [hf]
      have HT := Lib.hid (takeL_no (L := L) (r := r) (.inr (.inr (.inr (.inl ⟨hk2, .inl (by rw [ha]; rfl)⟩)))))
      have e3 : (0 : Int) ≤ (i : Int) := by omega
      have e4 : decide ((0 : Int) ≤ (i : Int)) = true := decide_eq_true e3
      go_upto_region 5 with fail
      go_cut [42] (fun t wx => t = .bool true ∧ Keeps w3 wx)
      case first =>
        go_quiet (fail)
        go_wp2_with fail
        go_meet
        exact ⟨rfl, by repeat (first | exact Keeps.refl _ | refine Keeps.drewN ?_ _)⟩
      case rest =>
      obtain ⟨rfl, hkc⟩ := hcut
      have HS := Lib.hid (HS.out.then hkc)
      go_wp2_with (first
        | refine wpList_ld rfl rboxM HS.out.box _ rfl rfl ?_
        | refine wpList_st (ds := #[.slice p L.length c, .int .i64 m.next]) rfl rboxM HS.out.res rfl (by simp [Value.oneCell']) _ _ rfl rfl rfl rfl ?_; intro w8 hB8 hM8)
      have HLd := Lib.hid (ld_run (P := Try.prog) rboxM hB8)
      have HX := Lib.hid (HFIN.out _ _ _ HS.out w8 hB8 hM8)
      clear hB8 hM8
      exact bodyPost_ret (v := .tuple #[.agg #[.slice p L.length c, .int .i64 m.next], .bool false]) (by simp [results, Try.results53, Sem.run_bind, Sem.run_pure, Result.andThen_ok, Act.put, asAddr, HLd.out]) rfl (HNO.out HT.out w8 HX.out _ rfl)

    rw [hf]
    have HPT := Lib.hid (fun w => Quota.rPut_any (sumS L) (cntS L) r.size w)
    have HPB := Lib.hid (putB_eq (sumS L) (cntS L) r.size)
    generalize hpb : Quota.putB (sumS L) (cntS L) r.size = pb at *
    generalize Quota.putV (sumS L) (cntS L) r.size = pv1 at *
    generalize Quota.putC (sumS L) (cntS L) r.size = pv2 at *
    clear hpb
    have hfd : ∀ w, (Instr.field 195 (.agg #[.int .i64 pv1, .int .i64 pv2, .bool pb]) 1).run Try.prog w = .ok (.bool pb) w := fun w => by rfl
    go_upto_region 5 with fail
    go_cut [42] (fun t wx => t = .bool (!pb) ∧ Keeps w3 wx)
    case first =>
      refine wp_region_noPanic ?_
      refine wp_region_held_drew (S := fun w' => Keeps (w3) w') (by kernel_rfl) ((Keeps.refl _).drew) (fun _ => ?_)
      have hHeld : Keeps (w3) (w3).drew := (Keeps.refl _).drew
      refine wpAnyH_take (i := 0) (v := ?vv1) (by rfl) (by kernel_rfl) (by kernel_rfl) (by kernel_rfl) (by intro _ _ _ h; exact h) (Or.inl ⟨by kernel_rfl, ?hy1⟩) (by assumption) ?rest1
      case hy1 =>
        intro w' hSw
        have hSw : Keeps _ w' := hSw
        clear hSw
        go_simp
        try with_reducible rfl
      change wpAnyH _ _ _ _ _ _ _ (Act.put _ (some 32) _) _
      try simp only [Act.put, List.setIfInBounds_toArray, List.set_cons_zero, List.set_cons_succ]
      refine wpAnyH_take (i := 1) (v := ?vv2) (by rfl) (by kernel_rfl) (by kernel_rfl) (by kernel_rfl) (by intro _ _ _ h; exact h) (Or.inl ⟨by kernel_rfl, ?hy2⟩) (by assumption) ?rest2
      case hy2 =>
        intro w' hSw
        have hSw : Keeps _ w' := hSw
        clear hSw
        go_simp
        try with_reducible rfl
      change wpAnyH _ _ _ _ _ _ _ (Act.put _ (some 33) _) _
      try simp only [Act.put, List.setIfInBounds_toArray, List.set_cons_zero, List.set_cons_succ]
      refine wpAnyH_take (i := 2) (v := ?vv3) (by rfl) (by kernel_rfl) (by kernel_rfl) (by kernel_rfl) (by intro _ _ _ h; exact h) (Or.inl ⟨by kernel_rfl, ?hy3⟩) (by assumption) ?rest3
      case hy3 =>
        intro w' hSw
        have hSw : Keeps _ w' := hSw
        clear hSw
        go_simp
        try with_reducible rfl
      change wpAnyH _ _ _ _ _ _ _ (Act.put _ (some 34) _) _
      try simp only [Act.put, List.setIfInBounds_toArray, List.set_cons_zero, List.set_cons_succ]
      refine wpAnyH_take (i := 3) (v := ?vv4) (by rfl) (by kernel_rfl) (by kernel_rfl) (by kernel_rfl) (by intro _ _ _ h; exact h) (Or.inl ⟨by kernel_rfl, ?hy4⟩) (by assumption) ?rest4
      case hy4 =>
        intro w' hSw
        have hSw : Keeps _ w' := hSw
        have h0 := keep1 hSw m0
        have h1 := keep1 hSw m1
        clear hSw
        go_simp
        try with_reducible rfl
      change wpAnyH _ _ _ _ _ _ _ (Act.put _ (some 35) _) _
      try simp only [Act.put, List.setIfInBounds_toArray, List.set_cons_zero, List.set_cons_succ]
      refine wpAnyH_take (i := 5) (v := ?vv5) (by rfl) (by kernel_rfl) (by kernel_rfl) (by kernel_rfl) (by intro _ _ _ h; exact h) (Or.inl ⟨by kernel_rfl, ?hy5⟩) (by assumption) ?rest5
      case hy5 =>
        intro w' hSw
        have hSw : Keeps _ w' := hSw
        clear hSw
        go_simp
        try with_reducible rfl
      change wpAnyH _ _ _ _ _ _ _ (Act.put _ (some 37) _) _
      try simp only [Act.put, List.setIfInBounds_toArray, List.set_cons_zero, List.set_cons_succ]
      refine wpAnyH_take (i := 6) (v := ?vv6) (by rfl) (by kernel_rfl) (by kernel_rfl) (by kernel_rfl) (by intro _ _ _ h; exact h) (Or.inl ⟨by kernel_rfl, ?hy6⟩) (by assumption) ?rest6
      case hy6 =>
        intro w' hSw
        have hSw : Keeps _ w' := hSw
        have h0 := keep1 hSw r9
        clear hSw
        go_simp
        try with_reducible rfl
      change wpAnyH _ _ _ _ _ _ _ (Act.put _ (some 38) _) _
      try simp only [Act.put, List.setIfInBounds_toArray, List.set_cons_zero, List.set_cons_succ]
      refine wpAnyH_ready (rs := [4]) (by kernel_rfl) (by simp) ?_
      refine AllReadyH.cons (o := _) rfl (fun K hK => ?_) AllReadyH.nil
      go_simp
      refine (HUS.out _ (HS.out.keeps.trans hHeld)).mono ?_
      rintro e z ⟨rfl, hk⟩
      have hb : Keeps _ z := hHeld.trans hk
      have r9 := keep1 hb r9
      have HZ := Lib.hid hb
      go_wp2_with fail
      refine hK.out _ _ hb (fun _ => ?_)
      clear hK K
      try simp only [Act.put, List.setIfInBounds_toArray, List.set_cons_zero, List.set_cons_succ]
      refine wpAnyH_more (S' := fun w' => Keeps z w') (fun _ h => hb.trans h) ?_
      clear hHeld hb hk
      have hHeld : Keeps z z := Keeps.refl _
      refine wpAnyH_ready (rs := [7]) (by kernel_rfl) (by simp) ?_
      refine AllReadyH.cons (o := _) rfl (fun K hK => ?_) AllReadyH.nil
      go_simp
      refine (HPT.out _).mono ?_
      rintro e y ⟨rfl, hk⟩
      have hb : Keeps _ y := hHeld.trans hk
      have HZ := Lib.hid (HZ.out.trans hb)
      go_wp2_with fail
      refine hK.out _ _ hb (fun _ => ?_)
      clear hK K
      try simp only [Act.put, List.setIfInBounds_toArray, List.set_cons_zero, List.set_cons_succ]
      refine wpAnyH_more (S' := fun w' => Keeps y w') (fun _ h => hb.trans h) ?_
      clear hHeld hb hk
      have hHeld : Keeps y y := Keeps.refl _
      refine wpAnyH_take (i := 8) (v := ?vv7) (by rfl) (by kernel_rfl) (by kernel_rfl) (by kernel_rfl) (by intro _ _ _ h; exact h) (Or.inl ⟨by kernel_rfl, ?hy7⟩) (by assumption) ?rest7
      case hy7 =>
        intro w' hSw
        have hSw : Keeps _ w' := hSw
        clear hSw
        go_simp
        try with_reducible rfl
      change wpAnyH _ _ _ _ _ _ _ (Act.put _ (some 40) _) _
      try simp only [Act.put, List.setIfInBounds_toArray, List.set_cons_zero, List.set_cons_succ]
      refine wpAnyH_take (i := 9) (v := ?vv8) (by rfl) (by kernel_rfl) (by kernel_rfl) (by kernel_rfl) (by intro _ _ _ h; exact h) (Or.inl ⟨by kernel_rfl, ?hy8⟩) (by assumption) ?rest8
      case hy8 =>
        intro w' hSw
        have hSw : Keeps _ w' := hSw
        clear hSw
        go_simp
        try with_reducible rfl
      change wpAnyH _ _ _ _ _ _ _ (Act.put _ (some 41) _) _
      try simp only [Act.put, List.setIfInBounds_toArray, List.set_cons_zero, List.set_cons_succ]
      refine wpAnyH_take (i := 10) (v := ?vv9) (by rfl) (by kernel_rfl) (by kernel_rfl) (by kernel_rfl) (by intro _ _ _ h; exact h) (Or.inl ⟨by kernel_rfl, ?hy9⟩) (by assumption) ?rest9
      case hy9 =>
        intro w' hSw
        have hSw : Keeps _ w' := hSw
        clear hSw
        go_simp
        try with_reducible rfl
      change wpAnyH _ _ _ _ _ _ _ (Act.put _ (some 42) _) _
      try simp only [Act.put, List.setIfInBounds_toArray, List.set_cons_zero, List.set_cons_succ]
      refine wpAnyH_done (by kernel_rfl) ?_ _
      refine NoPanic.normal ?_
      go_wp2_with fail
      go_meet
      exact ⟨rfl, HZ.out.trans hHeld⟩
    case rest =>
    obtain ⟨rfl, hkc⟩ := hcut
    obtain ⟨w4, rfl⟩ : ∃ z : World, z = wc := ⟨_, rfl⟩
    have HS := Lib.hid (HS.out.then hkc)
    clear hkc HPT HUS m0 m1 hfd r0 r1 r2 r3 r4 r5 r6 r7 r8 r9 r10 r11
    cases pb with
    | false =>
      have HT := Lib.hid (takeL_no (L := L) (r := r) (.inr (.inr (.inr (.inl ⟨hk2, .inr (by rw [← HPB.out])⟩)))))
      go_wp2_with (first
        | refine wpList_ld rfl rboxM HS.out.box _ rfl rfl ?_
        | refine wpList_st (ds := #[.slice p L.length c, .int .i64 m.next]) rfl rboxM HS.out.res rfl (by simp [Value.oneCell']) _ _ rfl rfl rfl rfl ?_; intro w8 hB8 hM8)
      have HLd := Lib.hid (ld_run (P := Try.prog) rboxM hB8)
      have HX := Lib.hid (HFIN.out _ _ _ HS.out w8 hB8 hM8)
      clear hB8 hM8
      exact bodyPost_ret (v := .tuple #[.agg #[.slice p L.length c, .int .i64 m.next], .bool false]) (by simp [results, Try.results53, Sem.run_bind, Sem.run_pure, Result.andThen_ok, Act.put, asAddr, HLd.out]) rfl (HNO.out HT.out w8 HX.out _ rfl)

    | true =>
    have HTI := Lib.hid (take_ins HST.out.rel HC.out hk2 (by rw [ha, ← HPB.out]; simp))
    have HUB := Lib.hid (chk_uid HC.out (.inl hk2))
    obtain ⟨r0, r1, r2, r3, r4, r5, r6, r7, r8, r9, r10, r11⟩ := rec12 HS.out.rcd
    clear HNO HPB
    go_upto_region 8 with fail
    generalize hW : World.alloc w4 _ = w5
    have hk5 : Keeps w4 w5 := by rw [← hW]; exact (Keeps.refl _).alloc _
    have HE := Lib.hid (show Blk w5 w4.heap.size 85 (entA (entOf r)) from by rw [← hW]; exact Blk.new _ _ _ rfl)
    have hQ4 : q + 3 ≤ w4.heap.size := HS.out.res.lt
    have HS := Lib.hid (HS.out.then hk5)
    clear hW hk5 r0 r1 r2 r3 r4 r5 r6 r7 r8 r9 r10 r11
    generalize w4.heap.size = qe at *
    obtain ⟨r0, r1, r2, r3, r4, r5, r6, r7, r8, r9, r10, r11⟩ := rec12 HS.out.rcd
    have m0 : w5.cell? ⟨q, 0, none⟩ = some (.slice p L.length c) := by rw [HS.out.box.cell]; rfl
    go_wp2_with fail
    go_loopw [8] (fun i wr => ∃ j : Nat, i = .int .i64 (j : Int) ∧ j ≤ L.length ∧ Hid (Keeps w5 wr ∧ ∀ i (_ : i < j) (h : i < L.length), L[i].uid < r.uid)) (fun i _ => L.length - (RowKit.intOf i).toNat)
    case atStart => exact ⟨0, rfl, Nat.zero_le _, Lib.hid ⟨Keeps.refl _, fun i hi => by omega⟩⟩
    case round =>
      obtain ⟨j, rfl, hj, HH⟩ := hrel
      have HS := Lib.hid (HS.out.then HH.out.1)
      have HE := Lib.hid (HE.out.keeps HH.out.1)
      clear m0 r0 r1 r2 r3 r4 r5 r6 r7 r8 r9 r10 r11
      obtain ⟨r0, r1, r2, r3, r4, r5, r6, r7, r8, r9, r10, r11⟩ := rec12 HS.out.rcd
      have m0 : wr.cell? ⟨q, 0, none⟩ = some (.slice p L.length c) := by rw [HS.out.box.cell]; rfl
      obtain ⟨w6, rfl⟩ : ∃ z : World, z = wr := ⟨_, rfl⟩
      have hdc : (∃ h : j < L.length, L[j].uid < r.uid) ∨ (∀ h : j < L.length, ¬ L[j].uid < r.uid) := by
        by_cases h : ∃ h : j < L.length, L[j].uid < r.uid
        · exact .inl h
        · exact .inr (fun h1 h2 => h ⟨h1, h2⟩)
      rcases hdc with ⟨hlt, hul⟩ | hend
      · obtain ⟨ba, oa, cap, hv, hra⟩ := (EntsAt.r (HA.out.keeps HS.out.keeps)).one hlt
        simp only [Value.slice.injEq] at hv
        obtain ⟨rfl, -, rfl⟩ := hv
        obtain ⟨a0, -⟩ := ent7 hra
        have e3 : decide (L[j].uid < r.uid) = true := decide_eq_true hul
        have e4 : decide ((j : Int) < (L.length : Int)) = true := decide_eq_true (by omega)
        have e5 : decide (j < L.length) = true := decide_eq_true hlt
        have HUL := Lib.hid hul
        generalize hlu : L[j].uid = lu at *
        have HLU := Lib.hid hlu
        clear hlu hul hra
        go_upto_region 9 with fail
        go_cut [72] (fun t wx => t = .bool true ∧ Keeps w6 wx)
        case first =>
          go_quiet (fail)
          go_wp2_with fail
          go_meet
          exact ⟨rfl, by repeat (first | exact Keeps.refl _ | refine Keeps.drewN ?_ _)⟩
        case rest =>
        obtain ⟨rfl, hkc⟩ := hcut
        go_wp2_with fail
        go_roundw
        case rel => exact ⟨j + 1, by simp, by omega, Lib.hid ⟨HH.out.1.trans hkc, fun i hi h => by
          by_cases hij : i = j
          · subst hij; rw [HLU.out]; exact HUL.out
          · exact HH.out.2 i (by omega) h⟩⟩
        case measure =>
          simp only [RowKit.intOf]
          omega
      · have HTW := Lib.hid (tw_eq hj HH.out.2 hend)
        have hs1 : ∀ w', (Instr.slice 79 (.slice p L.length c) none (some (.int .i64 (j : Int))) none).run Try.prog w' = .ok (cutS 7 p 0 j c) w' := fun w' => run_cutS_h w' Try.underlying79 sEnt p L.length c j (by omega)
        have hs2 : ∀ w', (Instr.slice 79 (.slice p L.length c) (some (.int .i64 (j : Int))) none none).run Try.prog w' = .ok (cutS 7 p j L.length c) w' := fun w' => run_cutS_l w' Try.underlying79 sEnt p L.length c j (by omega)
        have HP1 := Lib.hid ((EntsAt.r HA.out).part (lo := 0) (hi := j) (Nat.zero_le _) hj)
        have HP2 := Lib.hid ((EntsAt.r HA.out).part (lo := j) (hi := L.length) hj (Nat.le_refl _))
        have hd0 : ((L.drop 0).take (j - 0)) = L.take j := by simp
        have hd1 : ((L.drop j).take (L.length - j)) = L.drop j := List.take_of_length_le (by simp)
        rw [hd0] at HP1
        rw [hd1] at HP2
        obtain ⟨p1, hp1⟩ := cutS_sl 7 p 0 j c
        obtain ⟨p2, hp2⟩ := cutS_sl 7 p j L.length c
        rw [hp1] at HP1 hs1
        rw [hp2] at HP2 hs2
        simp only [Nat.sub_zero] at HP1 hs1
        have HINS := Lib.hid (show insL L (entOf r) = L.take j ++ entOf r :: L.drop j from by
          unfold insL
          show L.takeWhile (fun a => decide (a.uid < r.uid)) ++ entOf r :: L.dropWhile (fun a => decide (a.uid < r.uid)) = _
          rw [HTW.out.1, HTW.out.2])
        have HTL := Lib.hid (show (L.take j).length = j ∧ (L.drop j).length = L.length - j from by simp; omega)
        have hqw : qe < w6.heap.size := HE.out.lt
        go_upto_region 9 with fail
        go_cut [72] (fun t wx => t = .bool false ∧ Keeps w6 wx)
        case first =>
          by_cases hlt : j < L.length
          · obtain ⟨ba, oa, cap, hv, hra⟩ := (EntsAt.r (HA.out.keeps HS.out.keeps)).one hlt
            simp only [Value.slice.injEq] at hv
            obtain ⟨rfl, -, rfl⟩ := hv
            obtain ⟨a0, -⟩ := ent7 hra
            have e3 : decide (L[j].uid < r.uid) = false := decide_eq_false (hend hlt)
            have e4 : decide ((j : Int) < (L.length : Int)) = true := decide_eq_true (by omega)
            have e5 : decide (j < L.length) = true := decide_eq_true hlt
            generalize L[j].uid = lu at *
            clear hra hd0 hd1 hp1 hp2 hs1 hs2 hend
            go_quiet (fail)
            go_wp2_with fail
            go_meet
            exact ⟨rfl, by repeat (first | exact Keeps.refl _ | refine Keeps.drewN ?_ _)⟩
          · have e4 : decide ((j : Int) < (L.length : Int)) = false := decide_eq_false (by omega)
            have e5 : decide (j < L.length) = false := decide_eq_false hlt
            clear hd0 hd1 hp1 hp2 hs1 hs2 hend
            go_quiet (fail)
            go_wp2_with fail
            go_meet
            exact ⟨rfl, by repeat (first | exact Keeps.refl _ | refine Keeps.drewN ?_ _)⟩
        case rest =>
        obtain ⟨rfl, hkc⟩ := hcut
        obtain ⟨w7, rfl⟩ : ∃ z : World, z = wc := ⟨_, rfl⟩
        have HS := Lib.hid (HS.out.then hkc)
        have HE := Lib.hid (HE.out.keeps hkc)
        have hq7 : q + 3 ≤ w7.heap.size := HS.out.res.lt
        have hqe7 : qe < w7.heap.size := HE.out.lt
        have HPA1 := Lib.hid (RowS.keeps HP1.out HS.out.keeps)
        clear hkc m0 hd0 hd1 hp1 hp2 hend HTW HH r0 r1 r2 r3 r4 r5 r6 r7 r8 r9 r10 r11
        generalize L.take j = A at *
        generalize L.drop j = B at *
        have m0 : w7.cell? ⟨q, 0, none⟩ = some (.slice p L.length c) := by rw [HS.out.box.cell]; rfl
        have HQE := Lib.hid hQ4
        go_upto_region 13 with (at_builtin; refine wpList_apps (base := qe + 1) entok (by decide) rfl _ _ rfl (.slice none (0) 0) (.slice p1 j c) (0) j ([]) (A.flatMap entC) rfl rfl (World.ownsRow_nil _ _ _ 7) (HPA1.out) (ents_one A) (by omega) (by decide) (by omega) ?_; intro v' w9 ho9 hg9 hf9; obtain ⟨p9, c9, rfl, -, -⟩ := Frm.ownsRow_form ho9)
        rw [Nat.zero_add, List.nil_append] at ho9
        have hq9 : qe + 1 ≤ w9.heap.size := Nat.le_trans hqe7 hg9.size
        have hk9 : Keeps w7 w9 := (Keeps.refl w7).grown hg9 (fun k hk => by simp [Value.ownBlock] at hk)
        have HS := Lib.hid (HS.out.then hk9)
        have HE := Lib.hid (HE.out.keeps hk9)
        have HO := Lib.hid ho9
        clear ho9 hg9 hf9 hk9 m0 hq7 hqe7
        have HE9 := Lib.hid (show Blk w9 qe 85 #[.int .i64 r.uid, .int .i64 r.time, .int .i64 r.flags, .int .i64 r.body, .int .i64 r.size, .int .i64 r.origin, .bool false] from HE.out)
        go_upto_region 14 with (first
          | refine wpList_ld rfl entM HE9.out _ rfl rfl ?_
          | (at_builtin; refine wpList_apps (base := qe + 1) entok (by decide) rfl _ _ rfl (.slice p9 (j) c9) (.slice (some ⟨w9.heap.size, 0, none⟩) 1 1) (j) 1 (A.flatMap entC) (entC (entOf r)) rfl rfl (Frm.ownsRow_keeps HO.out ((Keeps.refl _).alloc _)) (Frm.rowS_lit rfl rfl rfl) (by simp [entC, entA, Value.oneCell']) (by omega) (by decide) (by rw [Frm.alloc_size]; omega) ?_; intro v' w10 ho10 hg10 hf10; obtain ⟨p10, c10, rfl, -, -⟩ := Frm.ownsRow_form ho10))
        have hq10 : qe + 1 ≤ w10.heap.size := by have := hg10.size; rw [Frm.alloc_size] at this; omega
        have hb9 := Frm.ownsRow_base HO.out
        have HS10 := Lib.hid (show TSt w w10 q (.slice p L.length c) m.next (recA r (.slice pv nv cv)) from by
          have h := HS.out.then ((Keeps.refl w9).alloc (Obj.cells (entC (entOf r)).toArray 85))
          have hne : ∀ k, k < qe + 1 → (Value.slice p9 j c9).ownBlock ≠ some k := fun k hk he => by have := hb9 k he; omega
          have := HQ.out
          have := HQE.out
          exact ⟨h.keeps.grown hg10 (fun k hk => by have := hb9 k hk; omega), h.box.grown hg10 (hne q (by omega)), h.rcd.grown hg10 (hne (q + 1) (by omega)), h.res.grown hg10 (hne (q + 2) (by omega))⟩)
        have HS := HS10
        have HO := Lib.hid ho10
        clear ho10 hg10 hf10 hq9 HE HE9 HS10 hb9
        have m0 : w10.cell? ⟨q, 0, none⟩ = some (.slice p L.length c) := by rw [HS.out.box.cell]; rfl
        have z0 : w10.frozen? ⟨q, 0, none⟩ = false := HS.out.box.frozen _
        have HPA2 := Lib.hid (RowS.keeps HP2.out HS.out.keeps)
        have HGR : Hid (∀ y, w10.grownBy y (Value.slice p10 (j + 1) c10).ownBlock → TSt w y q (.slice p L.length c) m.next (recA r (.slice pv nv cv))) := Lib.hid (fun y hg => by
          have hb := Frm.ownsRow_base HO.out
          have hne : ∀ k, k < qe + 1 → (Value.slice p10 (j + 1) c10).ownBlock ≠ some k := fun k hk he => by have := hb k he; omega
          have := HQ.out
          have := HQE.out
          exact ⟨HS.out.keeps.grown hg (fun k hk => by have := hb k hk; omega), HS.out.box.grown hg (hne q (by omega)), HS.out.rcd.grown hg (hne (q + 1) (by omega)), HS.out.res.grown hg (hne (q + 2) (by omega))⟩)
        go_upto_region 15 with (at_builtin; refine wpList_apps (base := qe + 1) entok (by decide) rfl _ _ rfl (.slice p10 (j + 1) c10) (.slice p2 (L.length - j) (c - j)) (j + 1) (L.length - j) (A.flatMap entC ++ entC (entOf r)) (B.flatMap entC) rfl rfl (HO.out) (HPA2.out) (ents_one B) (by omega) (by decide) (by omega) ?_; intro v' w11 ho11 hg11 hf11; obtain ⟨p11, c11, rfl, -, -⟩ := Frm.ownsRow_form ho11; have HS11 := Lib.hid (HGR.out w11 hg11); have m11 : w11.cell? ⟨q, 0, none⟩ = some (.slice p L.length c) := (by rw [HS11.out.box.cell]; rfl); have z11 : w11.frozen? ⟨q, 0, none⟩ = false := HS11.out.box.frozen _)
        have hlen : j + 1 + (L.length - j) = L.length + 1 := by omega
        generalize hW : World.setCell w11 ⟨q, 0, none⟩ _ = w12
        have HO12 := Lib.hid (show EntsAt w12 (qe + 1) (.slice p11 (j + 1 + (L.length - j)) c11) (A ++ entOf r :: B) from by
          have h1 : w12.ownsRow (qe + 1) 85 7 (.slice p11 (j + 1 + (L.length - j)) c11) (j + 1 + (L.length - j)) (A.flatMap entC ++ entC (entOf r) ++ B.flatMap entC) := by
            rw [← hW]
            exact Frm.ownsRow_mods ho11 ((Mods.refl (· = q) w11).setCell (p := ⟨q, 0, none⟩) (fun _ => rfl) _) (fun x hx hs => by have := Frm.ownsRow_base ho11 x hx; have := HQE.out; omega)
          unfold EntsAt
          have hle : (A ++ entOf r :: B).length = j + 1 + (L.length - j) := by simp [HTL.out.1, HTL.out.2]; omega
          have hfm : (A ++ entOf r :: B).flatMap entC = A.flatMap entC ++ entC (entOf r) ++ B.flatMap entC := by simp
          rw [hle, hfm]
          exact h1)
        rw [hlen] at *
        have HS := Lib.hid (show TSt w w12 q (.slice p11 (L.length + 1) c11) m.next (recA r (.slice pv nv cv)) from by
          rw [← hW]
          exact ⟨HS11.out.keeps.setCell (p := ⟨q, 0, none⟩) HQ.out _, HS11.out.box.set_ 0 _, HS11.out.rcd.far (by show q + 1 ≠ q; omega) _, HS11.out.res.far (by show q + 2 ≠ q; omega) _⟩)
        clear hW HS11 HGR HO ho11 hg11 hf11 m11 z11 m0 z0 hs1 hs2 HPA1 HPA2 HP1 HP2
        have hub := HUB.out
        have u5 : w12.cell? ⟨q + 1, 5, none⟩ = some (.int .i64 r.uid) := by rw [HS.out.rcd.cell]; rfl
        have m1 : w12.cell? ⟨q, 1, none⟩ = some (.int .i64 m.next) := by rw [HS.out.box.cell]; rfl
        have z1 : w12.frozen? ⟨q, 1, none⟩ = false := HS.out.box.frozen _
        have hw5 : IntKind.i64.wrap (r.uid + 1) = r.uid + 1 := by rw [IntKind.wrap_i64]; omega
        have HBB := Lib.hid hbase
        by_cases hun : m.next ≤ r.uid
        · have e3 : decide (m.next ≤ r.uid) = true := decide_eq_true hun
          have HNX := Lib.hid (show (take m r).1.next = r.uid + 1 from by rw [HTI.out.2, if_pos (by omega)])
          go_upto_region 17 with fail
          generalize hW : World.setCell w12 ⟨q, 1, none⟩ _ = w13
          have HO12 := Lib.hid (show EntsAt w13 (qe + 1) (.slice p11 (L.length + 1) c11) (A ++ entOf r :: B) from by
            rw [← hW]
            exact HO12.out.mods ((Mods.refl (· = q) w12).setCell (p := ⟨q, 1, none⟩) (fun _ => rfl) _) (fun x hx => by have := HQE.out; omega))
          have HS := Lib.hid (show TSt w w13 q (.slice p11 (L.length + 1) c11) (r.uid + 1) (recA r (.slice pv nv cv)) from by
            rw [← hW]
            exact ⟨HS.out.keeps.setCell (p := ⟨q, 1, none⟩) HQ.out _, HS.out.box.set_ 1 _, HS.out.rcd.far (by show q + 1 ≠ q; omega) _, HS.out.res.far (by show q + 2 ≠ q; omega) _⟩)
          clear hW u5 m1 z1
          go_wp2_with (first
            | refine wpList_ld rfl rboxM HS.out.box _ rfl rfl ?_
            | refine wpList_st (ds := #[.slice p11 (L.length + 1) c11, .int .i64 (r.uid + 1)]) rfl rboxM HS.out.res rfl (by simp [Value.oneCell']) _ _ rfl rfl rfl rfl ?_; intro w8 hB8 hM8)
          have HLd := Lib.hid (ld_run (P := Try.prog) rboxM hB8)
          have HX := Lib.hid (HFIN.out _ _ _ HS.out w8 hB8 hM8)
          have HO13 := Lib.hid (HO12.out.mods hM8 (fun x hx => by have := HQE.out; omega))
          clear hB8 hM8
          exact bodyPost_ret (v := .tuple #[.agg #[.slice p11 (L.length + 1) c11, .int .i64 (r.uid + 1)], .bool true]) (by simp [results, Try.results53, Sem.run_bind, Sem.run_pure, Result.andThen_ok, Act.put, asAddr, HLd.out]) rfl (by rw [HTI.out.1, HNX.out, HINS.out]; exact ⟨_, rfl, HO13.out.lower (by have := HBB.out; have := HQE.out; omega), HX.out⟩)

        · have e3 : decide (m.next ≤ r.uid) = false := decide_eq_false hun
          have HNX := Lib.hid (show (take m r).1.next = m.next from by rw [HTI.out.2, if_neg (by omega)])
          go_wp2_with (first
            | refine wpList_ld rfl rboxM HS.out.box _ rfl rfl ?_
            | refine wpList_st (ds := #[.slice p11 (L.length + 1) c11, .int .i64 m.next]) rfl rboxM HS.out.res rfl (by simp [Value.oneCell']) _ _ rfl rfl rfl rfl ?_; intro w8 hB8 hM8)
          have HLd := Lib.hid (ld_run (P := Try.prog) rboxM hB8)
          have HX := Lib.hid (HFIN.out _ _ _ HS.out w8 hB8 hM8)
          have HO13 := Lib.hid (HO12.out.mods hM8 (fun x hx => by have := HQE.out; omega))
          clear hB8 hM8
          exact bodyPost_ret (v := .tuple #[.agg #[.slice p11 (L.length + 1) c11, .int .i64 m.next], .bool true]) (by simp [results, Try.results53, Sem.run_bind, Sem.run_pure, Result.andThen_ok, Act.put, asAddr, HLd.out]) rfl (by rw [HTI.out.1, HNX.out, HINS.out]; exact ⟨_, rfl, HO13.out.lower (by have := HBB.out; have := HQE.out; omega), HX.out⟩)

  have e2 : (r.kind == 2) = false := by simp [hk2]
  have HKK : Hid (r.kind = 3 ∨ r.kind = 4) := Lib.hid (by omega)
  clear HUS
  rcases findL_spec L r.uid with ⟨hf, ha⟩ | ⟨i, hi, hf, ha, hu⟩
  · rw [hf]
    have HT := Lib.hid (takeL_no (L := L) (r := r) (.inr (.inr (.inr (.inr ⟨hk2, by rw [ha]; rfl⟩)))))
    go_wp2_with (first
      | refine wpList_ld rfl rboxM HS.out.box _ rfl rfl ?_
      | refine wpList_st (ds := #[.slice p L.length c, .int .i64 m.next]) rfl rboxM HS.out.res rfl (by simp [Value.oneCell']) _ _ rfl rfl rfl rfl ?_; intro w8 hB8 hM8)
    have HLd := Lib.hid (ld_run (P := Try.prog) rboxM hB8)
    have HX := Lib.hid (HFIN.out _ _ _ HS.out w8 hB8 hM8)
    clear hB8 hM8
    exact bodyPost_ret (v := .tuple #[.agg #[.slice p L.length c, .int .i64 m.next], .bool false]) (by simp [results, Try.results53, Sem.run_bind, Sem.run_pure, Result.andThen_ok, Act.put, asAddr, HLd.out]) rfl (HNO.out HT.out w8 HX.out _ rfl)

  rw [hf]
  have e3 : decide ((i : Int) < 0) = false := decide_eq_false (by omega)
  obtain ⟨ba, oa, cap, hv, hra⟩ := (EntsAt.r (HA.out.keeps HS.out.keeps)).one hi
  simp only [Value.slice.injEq] at hv
  obtain ⟨rfl, -, rfl⟩ := hv
  obtain ⟨-, -, -, -, -, -, a6⟩ := ent7 hra
  have HR := Lib.hid hra
  clear hra
  cases hg : L[i].gone with
  | true =>
    rw [hg] at a6
    have HT := Lib.hid (takeL_no (L := L) (r := r) (.inr (.inr (.inr (.inr ⟨hk2, by rw [ha, Option.filter_some, hg]; rfl⟩)))))
    go_wp2_with (first
      | refine wpList_ld rfl rboxM HS.out.box _ rfl rfl ?_
      | refine wpList_st (ds := #[.slice (some ⟨ba, oa, none⟩) L.length c, .int .i64 m.next]) rfl rboxM HS.out.res rfl (by simp [Value.oneCell']) _ _ rfl rfl rfl rfl ?_; intro w8 hB8 hM8)
    have HLd := Lib.hid (ld_run (P := Try.prog) rboxM hB8)
    have HX := Lib.hid (HFIN.out _ _ _ HS.out w8 hB8 hM8)
    clear hB8 hM8
    exact bodyPost_ret (v := .tuple #[.agg #[.slice (some ⟨ba, oa, none⟩) L.length c, .int .i64 m.next], .bool false]) (by simp [results, Try.results53, Sem.run_bind, Sem.run_pure, Result.andThen_ok, Act.put, asAddr, HLd.out]) rfl (HNO.out HT.out w8 HX.out _ rfl)

  | false =>
    rw [hg] at a6
    have HTS := Lib.hid (take_set HST.out.rel HC.out HKK.out hi ha hu hg)
    clear HNO hf ha hu hg
    generalize L[i] = E at *
    have HRL := Lib.hid (show w3.rangeAt ba (oa + i * 7) [.int .i64 E.uid, .int .i64 E.time, .int .i64 E.flags, .int .i64 E.body, .int .i64 E.size, .int .i64 E.origin, .bool E.gone] from HR.out)
    go_upto_region 21 with (refine wpList_ldR rfl entM HRL.out _ rfl rfl ?_)
    generalize hW : World.alloc w3 _ = w4
    have hk4 : Keeps w3 w4 := by rw [← hW]; exact (Keeps.refl _).alloc _
    have HE := Lib.hid (show Blk w4 w3.heap.size 85 (entA E) from by rw [← hW]; exact Blk.new _ _ _ rfl)
    have hqe : q + 3 ≤ w3.heap.size := HS.out.res.lt
    have HS := Lib.hid (HS.out.then hk4)
    clear hW hk4 HR HRL a6 m0 m1 r0 r1 r2 r3 r4 r5 r6 r7 r8 r9 r10 r11
    generalize w3.heap.size = qe at *
    obtain ⟨r0, r1, r2, r3, r4, r5, r6, r7, r8, r9, r10, r11⟩ := rec12 HS.out.rcd
    have y2 : w4.cell? ⟨qe, 2, none⟩ = some (.int .i64 E.flags) := by rw [HE.out.cell]; rfl
    have y6 : w4.cell? ⟨qe, 6, none⟩ = some (.bool E.gone) := by rw [HE.out.cell]; rfl
    have f2 : w4.frozen? ⟨qe, 2, none⟩ = false := HE.out.frozen _
    have f6 : w4.frozen? ⟨qe, 6, none⟩ = false := HE.out.frozen _
    go_upto_if 120 with fail
    go_cut [10] (fun pp wx => pp = .pointer (some ⟨qe, 0, none⟩) ∧ Hid (Blk wx qe 85 (entA (if r.kind = 3 then { E with gone := true, flags := 0 } else { E with flags := r.flags })) ∧ TSt w wx q (.slice (some ⟨ba, oa, none⟩) L.length c) m.next (recA r (.slice pv nv cv))))
    case first =>
      by_cases h3 : r.kind = 3
      · have e5 : (r.kind == 3) = true := by simp [h3]
        go_wp2_with fail
        go_meet
        refine ⟨rfl, Lib.hid ⟨?_, ?_⟩⟩
        · rw [if_pos h3]
          exact (HE.out.set_ 6 _).set_ 2 _
        · have := HQ.out
          exact ⟨(HS.out.keeps.setCell (p := ⟨qe, 6, none⟩) (by show _ ≤ qe; omega) _).setCell (p := ⟨qe, 2, none⟩) (by show _ ≤ qe; omega) _, (HS.out.box.far (by show q ≠ qe; omega) _).far (by show q ≠ qe; omega) _, (HS.out.rcd.far (by show q + 1 ≠ qe; omega) _).far (by show q + 1 ≠ qe; omega) _, (HS.out.res.far (by show q + 2 ≠ qe; omega) _).far (by show q + 2 ≠ qe; omega) _⟩
      · have e5 : (r.kind == 3) = false := by simp [h3]
        go_wp2_with fail
        go_meet
        refine ⟨rfl, Lib.hid ⟨?_, ?_⟩⟩
        · rw [if_neg h3]
          exact HE.out.set_ 2 _
        · have := HQ.out
          exact ⟨HS.out.keeps.setCell (p := ⟨qe, 2, none⟩) (by show _ ≤ qe; omega) _, HS.out.box.far (by show q ≠ qe; omega) _, HS.out.rcd.far (by show q + 1 ≠ qe; omega) _, HS.out.res.far (by show q + 2 ≠ qe; omega) _⟩
    case rest =>
    obtain ⟨rfl, HC2⟩ := hcut
    obtain ⟨w5, rfl⟩ : ∃ z : World, z = wc := ⟨_, rfl⟩
    have HE := Lib.hid HC2.out.1
    have HS := Lib.hid HC2.out.2
    clear HC2 y2 y6 f2 f6 r0 r1 r2 r3 r4 r5 r6 r7 r8 r9 r10 r11
    generalize (if r.kind = 3 then ({ E with gone := true, flags := 0 } : Ent) else { E with flags := r.flags }) = E' at *
    have hq5 := HS.out.res.lt
    have HWI := Lib.hid (with_any w5 (EntsAt.r (HA.out.keeps HS.out.keeps)) m.next hi hl E')
    go_wp2_with (first
      | refine wpList_ld rfl rboxM HS.out.box _ rfl rfl ?_
      | refine wpList_ld rfl entM HE.out _ rfl rfl ?_)
    refine HWI.out.mono ?_
    rintro e w9 ⟨v9, rfl, hen, hk9⟩
    obtain ⟨p9, c9, rfl, -, -⟩ := Frm.ownsRow_form hen
    have HS := Lib.hid (HS.out.then hk9)
    have HEN := Lib.hid (hen.lower (base' := q + 3) (by omega))
    have HBB := Lib.hid hbase
    clear hen hk9 HE HWI
    generalize L.take i ++ E' :: L.drop (i + 1) = LL at *
    go_wp2_with (refine wpList_st (ds := #[.slice p9 LL.length c9, .int .i64 m.next]) rfl rboxM HS.out.res rfl (by simp [Value.oneCell']) _ _ rfl rfl rfl rfl ?_; intro w8 hB8 hM8)
    have HLd := Lib.hid (ld_run (P := Try.prog) rboxM hB8)
    have HX := Lib.hid (hM8.keeps HS.out.keeps (fun k hk => by have := HQ.out; omega))
    have HO13 := Lib.hid (HEN.out.mods hM8 (fun x hx => by omega))
    clear hB8 hM8
    exact bodyPost_ret (v := .tuple #[.agg #[.slice p9 LL.length c9, .int .i64 m.next], .bool true]) (by simp [results, Try.results53, Sem.run_bind, Sem.run_pure, Result.andThen_ok, Act.put, asAddr, HLd.out]) rfl (by rw [HTS.out.1, HTS.out.2]; exact ⟨_, rfl, HO13.out.lower (by have := HBB.out; omega), HX.out⟩)
end Mbx
end Go.Proofs.Ytohchhgheeolpaa
