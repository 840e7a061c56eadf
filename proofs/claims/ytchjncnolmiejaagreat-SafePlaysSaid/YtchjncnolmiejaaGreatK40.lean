/- Several texts in one: RfWrite, SfAppend. -/
import Derived.Test.YtchjncnolmiejaaGreatK39
/- The document's disk: write. -/
namespace Go.Proofs.YtchjncnolmiejaaGreat
open Go.RowKit
namespace Rf
open Vd
theorem writok : ElemOkS Tryz.prog 91 127 2 24 := elemOkS (z := .agg #[.int .i64 0, .string (bstr [])]) Tryz.underlying91 (by kernel_rfl) rfl
theorem bytes_mem {files : List RFil} {l : Nms} {p : Str × Nat} (h : p ∈ l) : fLen files p.2 ≤ bytesR files l := by
  induction l with
  | nil => simp at h
  | cons q l ih =>
    have e : bytesR files (q :: l) = fLen files q.2 + bytesR files l := by simp [bytesR, fLen]
    rcases List.mem_cons.1 h with rfl | h
    · omega
    · have := ih h; omega
theorem filAt_get {d : RDsk} {i : Nat} (hi : i < d.files.length) : filAt d i = d.files[i] := by
  unfold filAt
  rw [List.getD_eq_getElem?_getD, List.getElem?_eq_getElem hi]
  rfl
theorem set_fit {d : RDsk} {k : Nat} (h : RFit d k) {i : Nat} {f : RFil} (h1 : f.waits.length ≤ k + 1) (h2 : f.now.length ≤ 1000000000 ∧ f.sure.length ≤ 1000000000) : RFit (setR d i f) (k + 1) :=
  { h.more (Nat.le_succ k) with
    f := by simpa [setR] using Nat.le_succ_of_le h.f
    p := fun x hx => by
      rcases List.mem_or_eq_of_mem_set hx with hx | rfl
      · exact Nat.le_succ_of_le (h.p x hx)
      · exact h1
    b := fun x hx => by
      rcases List.mem_or_eq_of_mem_set hx with hx | rfl
      · exact h.b x hx
      · exact h2
    is := fun p hp => by simpa [setR] using h.is p hp }
theorem write_fit {d : RDsk} {k : Nat} (h : RFit d k) {i : Nat} (hi : i < d.files.length) (hn : ∃ x, (x, i) ∈ d.now) {a : Nat} {b : Str} (ha : a ≤ d.files[i].now.length) (hs : ¬ d.cap - (usedR d : Int) < max 0 ((a : Int) + (b.length : Int) - (d.files[i].now.length : Int))) : RFit (setR d i (wroteR d.files[i] ⟨a, b⟩)) (k + 1) := by
  obtain ⟨x, hx⟩ := hn
  have hu := bytes_mem (files := d.files) hx
  have hf : fLen d.files i = d.files[i].now.length := by unfold fLen; rw [List.getElem?_eq_getElem hi]; rfl
  have hb := h.b _ (List.getElem_mem hi)
  have hp := h.p _ (List.getElem_mem hi)
  have hc := h.cap
  refine set_fit h (by simp [wroteR]; omega) ⟨?_, hb.2⟩
  show (overL d.files[i].now a b).length ≤ _
  rw [overL_len]
  unfold usedR at hs
  simp only at hu
  omega
theorem wrC_flat (l : List Pat) : ∀ u ∈ l.flatMap wrC, u.oneCell' = true := fun u hu => by
  obtain ⟨p, -, hp⟩ := List.mem_flatMap.1 hu
  simp [wrC] at hp
  rcases hp with rfl | rfl <;> rfl
/-- a row of bytes doesn't lie in a block of other cells -/
theorem row_apart {w w' : World} {v : Value} {l : List UInt8} (h : Row w v (l.map u8v)) {m : Nat} {t : TypeId} {cs : Array Value} (hB : Blk w m t cs) (hc : ∀ x ∈ cs.toList, ∀ n, x ≠ .int .u8 n) (hm : Mods (· = m) w w') : Row w' v (l.map u8v) := by
  rcases h with h | ⟨b, off, cap, hv, h1, h2, h3⟩
  · exact .inl h
  · refine .inr ⟨b, off, cap, hv, h1, h2, fun i x hx => ?_⟩
    have hh := h3 i x hx
    refine hm.cell hh (fun e => ?_)
    have e : b = m := e
    subst e
    rw [hB.cell] at hh
    have hx2 := List.mem_of_getElem? hx
    obtain ⟨y, -, hy⟩ := List.mem_map.1 hx2
    exact hc x (Array.mem_toList_iff.2 (Array.mem_of_getElem? hh)) y.toNat hy.symm
section
variable {w : World} {M : Nat → Prop} {m : Nat} {d : RDsk} {k : Nat}
theorem RefIn.bytes {fv nv sv wv : Value} {fw : List Value} (h : RefIn w M m fv nv sv wv fw d k) {w' : World} (hm : Mods (· = m) w w') {v : Value} {l : List UInt8} (hr : Row w v (l.map u8v)) : Row w' v (l.map u8v) := by
  obtain ⟨_, _, e1, -, -⟩ := Frm.ownsRow_form h.files
  obtain ⟨_, _, e2, -, -⟩ := Frm.ownsRow_form h.now
  obtain ⟨_, _, e3, -, -⟩ := Frm.ownsRow_form h.sure
  obtain ⟨_, _, e4, -, -⟩ := Frm.ownsRow_form h.turns
  refine row_apart hr h.blk (fun x hx n => ?_) hm
  rw [e1, e2, e3, e4] at hx
  simp [rdA] at hx
  rcases hx with rfl | rfl | rfl | rfl | rfl | rfl | rfl | rfl | rfl | rfl <;> simp
set_option maxRecDepth 100000 in
set_option maxHeartbeats 4000000 in
theorem write_r (h : RefAt w M m d k) (hk : k ≤ 100000) {i : Nat} (hi : i < d.files.length) (hn : ∃ x, (x, i) ∈ d.now) {a : Nat} {b : Str} {bv : Value} (hb : Row w bv (b.map u8v)) (hbl : b.length ≤ 1000000000) (ha : a ≤ d.files[i].now.length) : Calls Tryz.prog 135 #[.pointer (some ⟨m, 0, none⟩), .int .i64 (i : Int), .int .i64 (a : Int), bv] w (RDid w M m (writeR d i ⟨a, b⟩) (k + 1)) := by
  have HR := Lib.hid h
  have HX0 : Hid (writeR d i ⟨a, b⟩ = if d.cap - (usedR d : Int) < max 0 ((a : Int) + (b.length : Int) - (d.files[i].now.length : Int)) then (d, 10) else (setR d i (wroteR d.files[i] ⟨a, b⟩), 0)) := Lib.hid (by unfold writeR; rw [filAt_get hi]; rfl)
  obtain ⟨fv, nv, sv, wv, fw, h⟩ := h
  have H := Lib.hid h
  have HBV := Lib.hid hb
  have hfl : d.files.length ≤ 100000 := Nat.le_trans h.fit.f hk
  have hcap := h.fit.cap
  have hfb := h.fit.b _ (List.getElem_mem hi)
  have hwl : d.files[i].waits.length ≤ 100000 := Nat.le_trans (h.fit.p _ (List.getElem_mem hi)) hk
  have HWO := Lib.hid (h.waits i (by rw [h.len]; exact hi) hi)
  obtain ⟨pw, cw, hpw, -, -⟩ := Frm.ownsRow_form HWO.out
  obtain ⟨c0, -, -, -, c4, -⟩ := h.cells
  obtain ⟨bf, of, cf, hfv, hrg⟩ := h.file hi
  subst hfv
  have HSW := Lib.hid (show ∀ y, (Value.slice pw d.files[i].waits.length cw).ownBlock = some y → M y from by rw [← hpw]; exact h.sw _ (List.getElem_mem _))
  rw [hpw] at hrg HWO
  clear hpw
  have HRG := Lib.hid hrg
  have hub : usedR d ≤ 100000000000000 := Nat.le_trans (bytes_le (fun x hx => (h.fit.b x hx).1) d.now) (Nat.le_trans (Nat.mul_le_mul_right _ (Nat.le_trans h.fit.n hk)) (by decide))
  have HFT := Lib.hid (fun hs => write_fit h.fit hi hn (b := b) ha hs)
  obtain ⟨pb, cb, rfl, -, -⟩ := hb.formB
  have hcm := h.blk.cell 4
  clear h hb hrg hn
  obtain ⟨F, hF⟩ : ∃ F, F = d.files.length := ⟨_, rfl⟩
  have HFE := Lib.hid hF
  obtain ⟨f, hf⟩ : ∃ f, f = d.files[i] := ⟨_, rfl⟩
  have HFI := Lib.hid hf
  rw [← hf] at HX0 HRG HWO HSW HFT hfb hwl ha
  rw [← hF] at c0 hfl
  have hiF : (i : Int) < (F : Int) := by omega
  clear hf hF
  obtain ⟨U, hU⟩ : ∃ U, U = usedR d := ⟨_, rfl⟩
  have HU := Lib.hid hU
  rw [← hU] at HX0 hub
  clear hU
  obtain ⟨fnow, fsure, fwt⟩ := f
  simp only at hfb hwl ha HX0 HRG HWO HSW
  obtain ⟨nw, hnw⟩ : ∃ nw, nw = fwt.length := ⟨_, rfl⟩
  have HNW := Lib.hid hnw
  rw [← hnw] at HRG HWO HSW hwl
  clear hnw
  have hn1 := bstr_size fnow
  go_enter Tryz.func135, Tryz.ntmps135
  go_upto_region 2 with (refine wpList_ldR rfl filM HRG.out _ rfl rfl ?_)
  generalize hW : World.alloc w _ = w1
  have HK1 := Lib.hid (show Keeps w w1 from by rw [← hW]; exact (Keeps.refl _).alloc _)
  have HB1 := Lib.hid (show Blk w1 w.heap.size 93 #[.string (bstr fnow), .string (bstr fsure), .slice pw nw cw] from by rw [← hW]; exact Blk.new _ _ _ rfl)
  clear hW c0
  obtain ⟨q, hq⟩ : ∃ q, q = w.heap.size := ⟨_, rfl⟩
  rw [← hq] at HB1 ⊢
  have HQ := Lib.hid hq
  clear hq
  have q0 : w1.cell? ⟨q, 0, none⟩ = some (.string (bstr fnow)) := by rw [HB1.out.cell]; rfl
  obtain ⟨gr, hgr⟩ : ∃ gr : Int, gr = max 0 ((a : Int) + (b.length : Int) - (fnow.length : Int)) := ⟨_, rfl⟩
  have hgl : 0 ≤ gr ∧ gr ≤ 2000000000 := by omega
  have HG := Lib.hid hgr
  rw [← hgr] at HX0
  clear hgr
  have hif : (if (fnow.length : Int) < (a : Int) + (b.length : Int) then (a : Int) + (b.length : Int) - (fnow.length : Int) else 0) = gr := by
    rw [HG.out]
    split <;> omega
  have HIF := Lib.hid hif
  clear hif
  go_upto_region 3 with fail
  rw [HIF.out]
  have HC4 := Lib.hid (keep1 HK1.out c4)
  have HR1 := Lib.hid (HR.out.keeps HK1.out)
  have HUS := Lib.hid (used_r (HR1.out.keeps (Keeps.refl w1).drew) (by omega))
  rw [← HU.out] at HUS
  have hsub : IntKind.i64.wrap (d.cap - (U : Int)) = d.cap - (U : Int) := by rw [IntKind.wrap_i64]; omega
  clear c4 q0
  by_cases hsp : d.cap - (U : Int) < gr
  · have HX := Lib.hid (HX0.out.trans (if_pos hsp))
    have ht : decide (d.cap - (U : Int) < gr) = true := by simp; omega
    refine wp_region_noPanic ?_
    refine wp_region_held_drew (S := fun w' => Keeps (w1) w') (by kernel_rfl) ((Keeps.refl _).drew) (fun _ => ?_)
    have hHeld : Keeps (w1) (w1).drew := (Keeps.refl _).drew
    refine wpAnyH_take (i := 0) (v := ?vv1) (by rfl) (by kernel_rfl) (by kernel_rfl) (by kernel_rfl) (by intro _ _ _ h; exact h) (Or.inl ⟨by kernel_rfl, ?hy1⟩) (by assumption) ?rest1
    case hy1 =>
      intro w' hSw
      have hSw : Keeps _ w' := hSw
      clear hSw
      go_simp
      try with_reducible rfl
    change wpAnyH _ _ _ _ _ _ _ (Act.put _ (some 28) _) _
    try simp only [Act.put, List.setIfInBounds_toArray, List.set_cons_zero, List.set_cons_succ]
    refine wpAnyH_take (i := 1) (v := ?vv2) (by rfl) (by kernel_rfl) (by kernel_rfl) (by kernel_rfl) (by intro _ _ _ h; exact h) (Or.inl ⟨by kernel_rfl, ?hy2⟩) (by assumption) ?rest2
    case hy2 =>
      intro w' hSw
      have hSw : Keeps _ w' := hSw
      clear hSw
      go_simp
      try with_reducible rfl
    change wpAnyH _ _ _ _ _ _ _ (Act.put _ (some 29) _) _
    try simp only [Act.put, List.setIfInBounds_toArray, List.set_cons_zero, List.set_cons_succ]
    refine wpAnyH_take (i := 2) (v := ?vv3) (by rfl) (by kernel_rfl) (by kernel_rfl) (by kernel_rfl) (by intro _ _ _ h; exact h) (Or.inl ⟨by kernel_rfl, ?hy3⟩) (by assumption) ?rest3
    case hy3 =>
      intro w' hSw
      have hSw : Keeps _ w' := hSw
      clear hSw
      go_simp
      try with_reducible rfl
    change wpAnyH _ _ _ _ _ _ _ (Act.put _ (some 30) _) _
    try simp only [Act.put, List.setIfInBounds_toArray, List.set_cons_zero, List.set_cons_succ]
    refine wpAnyH_take (i := 3) (v := ?vv4) (by rfl) (by kernel_rfl) (by kernel_rfl) (by kernel_rfl) (by intro _ _ _ h; exact h) (Or.inl ⟨by kernel_rfl, ?hy4⟩) (by assumption) ?rest4
    case hy4 =>
      intro w' hSw
      have hSw : Keeps _ w' := hSw
      clear hSw
      go_simp
      try with_reducible rfl
    change wpAnyH _ _ _ _ _ _ _ (Act.put _ (some 31) _) _
    try simp only [Act.put, List.setIfInBounds_toArray, List.set_cons_zero, List.set_cons_succ]
    refine wpAnyH_take (i := 4) (v := ?vv5) (by rfl) (by kernel_rfl) (by kernel_rfl) (by kernel_rfl) (by intro _ _ _ h; exact h) (Or.inl ⟨by kernel_rfl, ?hy5⟩) (by assumption) ?rest5
    case hy5 =>
      intro w' hSw
      have hSw : Keeps _ w' := hSw
      have hx := keep1 hSw HC4.out
      clear hSw
      go_simp
      try with_reducible rfl
    change wpAnyH _ _ _ _ _ _ _ (Act.put _ (some 32) _) _
    try simp only [Act.put, List.setIfInBounds_toArray, List.set_cons_zero, List.set_cons_succ]
    refine wpAnyH_take (i := 5) (v := ?vv6) (by rfl) (by kernel_rfl) (by kernel_rfl) (by kernel_rfl) (by intro _ _ _ h; exact h) (Or.inl ⟨by kernel_rfl, ?hy6⟩) (by assumption) ?rest6
    case hy6 =>
      intro w' hSw
      have hSw : Keeps _ w' := hSw
      clear hSw
      go_simp
      try with_reducible rfl
    change wpAnyH _ _ _ _ _ _ _ (Act.put _ (some 33) _) _
    try simp only [Act.put, List.setIfInBounds_toArray, List.set_cons_zero, List.set_cons_succ]
    refine wpAnyH_ready (rs := [6]) (by kernel_rfl) (by simp) ?_
    refine AllReadyH.cons (o := _) rfl (fun K hK => ?_) AllReadyH.nil
    go_simp
    refine (HUS.out).mono ?_
    rintro e w2 ⟨rfl, hk⟩
    have hb : Keeps _ w2 := hHeld.trans hk
    have HK2 := Lib.hid hk
    go_wp2_with fail
    refine hK.out _ _ hb (fun _ => ?_)
    clear hK K
    try simp only [Act.put, List.setIfInBounds_toArray, List.set_cons_zero, List.set_cons_succ]
    refine wpAnyH_more (S' := fun w' => Keeps w2 w') (fun _ h => hb.trans h) ?_
    clear hHeld hb hk
    have hHeld : Keeps w2 w2 := Keeps.refl _
    refine wpAnyH_take (i := 7) (v := ?vv7) (by rfl) (by kernel_rfl) (by kernel_rfl) (by kernel_rfl) (by intro _ _ _ h; exact h) (Or.inl ⟨by kernel_rfl, ?hy7⟩) (by assumption) ?rest7
    case hy7 =>
      intro w' hSw
      have hSw : Keeps _ w' := hSw
      clear hSw
      go_simp
      try with_reducible rfl
    change wpAnyH _ _ _ _ _ _ _ (Act.put _ (some 35) _) _
    try simp only [Act.put, List.setIfInBounds_toArray, List.set_cons_zero, List.set_cons_succ]
    refine wpAnyH_take (i := 8) (v := ?vv8) (by rfl) (by kernel_rfl) (by kernel_rfl) (by kernel_rfl) (by intro _ _ _ h; exact h) (Or.inl ⟨by kernel_rfl, ?hy8⟩) (by assumption) ?rest8
    case hy8 =>
      intro w' hSw
      have hSw : Keeps _ w' := hSw
      clear hSw
      go_simp
      try with_reducible rfl
    change wpAnyH _ _ _ _ _ _ _ (Act.put _ (some 36) _) _
    try simp only [Act.put, List.setIfInBounds_toArray, List.set_cons_zero, List.set_cons_succ]
    refine wpAnyH_done (by kernel_rfl) ?_ _
    refine NoPanic.normal ?_
    have HKF := Lib.hid (((HK1.out.trans (Keeps.refl w1).drew).trans HK2.out).trans hHeld)
    clear hHeld
    go_wp2_with fail
    go_ret
    rw [HX.out]
    exact ⟨rfl, ((HR.out.keeps HKF.out).wide (fun y hy => .inl hy)).more (by omega), Mods.of_keeps HKF.out⟩
  · have HX := Lib.hid (HX0.out.trans (if_neg hsp))
    have HFU := Lib.hid (HFT.out (by rw [← HU.out, ← HG.out]; exact hsp))
    have ht : decide (d.cap - (U : Int) < gr) = false := by simp; omega
    refine wp_region_noPanic ?_
    refine wp_region_held_drew (S := fun w' => Keeps (w1) w') (by kernel_rfl) ((Keeps.refl _).drew) (fun _ => ?_)
    have hHeld : Keeps (w1) (w1).drew := (Keeps.refl _).drew
    refine wpAnyH_take (i := 0) (v := ?vv9) (by rfl) (by kernel_rfl) (by kernel_rfl) (by kernel_rfl) (by intro _ _ _ h; exact h) (Or.inl ⟨by kernel_rfl, ?hy9⟩) (by assumption) ?rest9
    case hy9 =>
      intro w' hSw
      have hSw : Keeps _ w' := hSw
      clear hSw
      go_simp
      try with_reducible rfl
    change wpAnyH _ _ _ _ _ _ _ (Act.put _ (some 28) _) _
    try simp only [Act.put, List.setIfInBounds_toArray, List.set_cons_zero, List.set_cons_succ]
    refine wpAnyH_take (i := 1) (v := ?vv10) (by rfl) (by kernel_rfl) (by kernel_rfl) (by kernel_rfl) (by intro _ _ _ h; exact h) (Or.inl ⟨by kernel_rfl, ?hy10⟩) (by assumption) ?rest10
    case hy10 =>
      intro w' hSw
      have hSw : Keeps _ w' := hSw
      clear hSw
      go_simp
      try with_reducible rfl
    change wpAnyH _ _ _ _ _ _ _ (Act.put _ (some 29) _) _
    try simp only [Act.put, List.setIfInBounds_toArray, List.set_cons_zero, List.set_cons_succ]
    refine wpAnyH_take (i := 2) (v := ?vv11) (by rfl) (by kernel_rfl) (by kernel_rfl) (by kernel_rfl) (by intro _ _ _ h; exact h) (Or.inl ⟨by kernel_rfl, ?hy11⟩) (by assumption) ?rest11
    case hy11 =>
      intro w' hSw
      have hSw : Keeps _ w' := hSw
      clear hSw
      go_simp
      try with_reducible rfl
    change wpAnyH _ _ _ _ _ _ _ (Act.put _ (some 30) _) _
    try simp only [Act.put, List.setIfInBounds_toArray, List.set_cons_zero, List.set_cons_succ]
    refine wpAnyH_take (i := 3) (v := ?vv12) (by rfl) (by kernel_rfl) (by kernel_rfl) (by kernel_rfl) (by intro _ _ _ h; exact h) (Or.inl ⟨by kernel_rfl, ?hy12⟩) (by assumption) ?rest12
    case hy12 =>
      intro w' hSw
      have hSw : Keeps _ w' := hSw
      clear hSw
      go_simp
      try with_reducible rfl
    change wpAnyH _ _ _ _ _ _ _ (Act.put _ (some 31) _) _
    try simp only [Act.put, List.setIfInBounds_toArray, List.set_cons_zero, List.set_cons_succ]
    refine wpAnyH_take (i := 4) (v := ?vv13) (by rfl) (by kernel_rfl) (by kernel_rfl) (by kernel_rfl) (by intro _ _ _ h; exact h) (Or.inl ⟨by kernel_rfl, ?hy13⟩) (by assumption) ?rest13
    case hy13 =>
      intro w' hSw
      have hSw : Keeps _ w' := hSw
      have hx := keep1 hSw HC4.out
      clear hSw
      go_simp
      try with_reducible rfl
    change wpAnyH _ _ _ _ _ _ _ (Act.put _ (some 32) _) _
    try simp only [Act.put, List.setIfInBounds_toArray, List.set_cons_zero, List.set_cons_succ]
    refine wpAnyH_take (i := 5) (v := ?vv14) (by rfl) (by kernel_rfl) (by kernel_rfl) (by kernel_rfl) (by intro _ _ _ h; exact h) (Or.inl ⟨by kernel_rfl, ?hy14⟩) (by assumption) ?rest14
    case hy14 =>
      intro w' hSw
      have hSw : Keeps _ w' := hSw
      clear hSw
      go_simp
      try with_reducible rfl
    change wpAnyH _ _ _ _ _ _ _ (Act.put _ (some 33) _) _
    try simp only [Act.put, List.setIfInBounds_toArray, List.set_cons_zero, List.set_cons_succ]
    refine wpAnyH_ready (rs := [6]) (by kernel_rfl) (by simp) ?_
    refine AllReadyH.cons (o := _) rfl (fun K hK => ?_) AllReadyH.nil
    go_simp
    refine (HUS.out).mono ?_
    rintro e w2 ⟨rfl, hk⟩
    have hb : Keeps _ w2 := hHeld.trans hk
    have HK2 := Lib.hid hk
    go_wp2_with fail
    refine hK.out _ _ hb (fun _ => ?_)
    clear hK K
    try simp only [Act.put, List.setIfInBounds_toArray, List.set_cons_zero, List.set_cons_succ]
    refine wpAnyH_more (S' := fun w' => Keeps w2 w') (fun _ h => hb.trans h) ?_
    clear hHeld hb hk
    have hHeld : Keeps w2 w2 := Keeps.refl _
    refine wpAnyH_take (i := 7) (v := ?vv15) (by rfl) (by kernel_rfl) (by kernel_rfl) (by kernel_rfl) (by intro _ _ _ h; exact h) (Or.inl ⟨by kernel_rfl, ?hy15⟩) (by assumption) ?rest15
    case hy15 =>
      intro w' hSw
      have hSw : Keeps _ w' := hSw
      clear hSw
      go_simp
      try with_reducible rfl
    change wpAnyH _ _ _ _ _ _ _ (Act.put _ (some 35) _) _
    try simp only [Act.put, List.setIfInBounds_toArray, List.set_cons_zero, List.set_cons_succ]
    refine wpAnyH_take (i := 8) (v := ?vv16) (by rfl) (by kernel_rfl) (by kernel_rfl) (by kernel_rfl) (by intro _ _ _ h; exact h) (Or.inl ⟨by kernel_rfl, ?hy16⟩) (by assumption) ?rest16
    case hy16 =>
      intro w' hSw
      have hSw : Keeps _ w' := hSw
      clear hSw
      go_simp
      try with_reducible rfl
    change wpAnyH _ _ _ _ _ _ _ (Act.put _ (some 36) _) _
    try simp only [Act.put, List.setIfInBounds_toArray, List.set_cons_zero, List.set_cons_succ]
    refine wpAnyH_done (by kernel_rfl) ?_ _
    refine NoPanic.normal ?_
    have HKF := Lib.hid (((Keeps.refl w1).drew.trans HK2.out).trans hHeld)
    clear hHeld hsub ht hsp HUS HC4 HFT
    have HKW := Lib.hid (HK1.out.trans HKF.out)
    have HBf := Lib.hid (HB1.out.keeps HKF.out)
    have HW2 := Lib.hid (Frm.ownsRow_keeps HWO.out HKW.out)
    have q2 : w2.cell? ⟨q, 2, none⟩ = some (.slice pw nw cw) := by rw [HBf.out.cell]; rfl
    go_upto_region 7 with (at_builtin; go_loud (refine wpList_apps (base := w2.heap.size) writok (by decide) rfl _ _ rfl (.slice none 0 0) (.slice pw nw cw) 0 nw [] (fwt.flatMap wrC) rfl rfl (World.ownsRow_nil _ _ _ 2) (rowS_of HW2.out) (wrC_flat _) (by omega) (by decide) (Nat.le_refl _) ?_; intro v3 w3 ho3 hg3 hf3; obtain ⟨p3, c3, rfl, -, -⟩ := Frm.ownsRow_form ho3))
    have HO3 := Lib.hid (show w3.ownsRow w2.heap.size 127 2 (.slice p3 nw c3) nw (fwt.flatMap wrC) from by simpa using ho3)
    have HK3 := Lib.hid (show Keeps w2 w3 from (Keeps.refl w2).grown hg3 (fun k hk => by simp [Value.ownBlock] at hk))
    have HB3 := Lib.hid (HBf.out.keeps HK3.out)
    have HKW3 := Lib.hid (HKW.out.trans HK3.out)
    have HI2 := Lib.hid (H.out.apart (T := fun _ => False) (Mods.of_keeps HKW.out) (fun _ _ h => h))
    have HBV2 := Lib.hid (HBV.out.keeps HKW.out)
    have HQM := Lib.hid (show q ≠ m from fun e => by have := H.out.blk.lt; have := HQ.out; omega)
    clear ho3 hg3 hf3 q2
    have HOd := Lib.hid (Frm.ownsRow_keeps HO3.out (Keeps.refl w3).drew)
    have HKX := Lib.hid (HK3.out.trans (Keeps.refl w3).drew)
    have hs32 := HK3.out.size
    have hsw2 := HKW.out.size
    refine wp_region_noPanic ?_
    refine wp_region_held_drew (S := fun w' => Mods (· = m) w2 w') (by kernel_rfl) ((Mods.of_keeps HK3.out).drew) (fun _ => ?_)
    have hHeld : Mods (· = m) w2 (w3).drew := (Mods.of_keeps HK3.out).drew
    generalize World.drew w3 = xs at *
    refine wpAnyH_take (i := 0) (v := ?vv17) (by rfl) (by kernel_rfl) (by kernel_rfl) (by kernel_rfl) (by intro _ _ _ h; exact h) (Or.inl ⟨by kernel_rfl, ?hy17⟩) (by assumption) ?rest17
    case hy17 =>
      intro w' hSw
      have hSw : Mods (· = m) w2 w' := hSw
      clear hSw
      go_simp
      try with_reducible rfl
    change wpAnyH _ _ _ _ _ _ _ (Act.put _ (some 41) _) _
    try simp only [Act.put, List.setIfInBounds_toArray, List.set_cons_zero, List.set_cons_succ]
    refine wpAnyH_take (i := 1) (v := ?vv18) (by rfl) (by kernel_rfl) (by kernel_rfl) (by kernel_rfl) (by intro _ _ _ h; exact h) (Or.inl ⟨by kernel_rfl, ?hy18⟩) (by assumption) ?rest18
    case hy18 =>
      intro w' hSw
      have hSw : Mods (· = m) w2 w' := hSw
      clear hSw
      go_simp
      try with_reducible rfl
    change wpAnyH _ _ _ _ _ _ _ (Act.put _ (some 42) _) _
    try simp only [Act.put, List.setIfInBounds_toArray, List.set_cons_zero, List.set_cons_succ]
    refine wpAnyH_take (i := 2) (v := ?vv19) (by rfl) (by kernel_rfl) (by kernel_rfl) (by kernel_rfl) (by intro _ _ _ h; exact h) (Or.inl ⟨by kernel_rfl, ?hy19⟩) (by assumption) ?rest19
    case hy19 =>
      intro w' hSw
      have hSw : Mods (· = m) w2 w' := hSw
      clear hSw
      go_simp
      try with_reducible rfl
    change wpAnyH _ _ _ _ _ _ _ (Act.put _ (some 43) _) _
    try simp only [Act.put, List.setIfInBounds_toArray, List.set_cons_zero, List.set_cons_succ]
    refine wpAnyH_take (i := 3) (v := ?vv20) (by rfl) (by kernel_rfl) (by kernel_rfl) (by kernel_rfl) (by intro _ _ _ h; exact h) (Or.inl ⟨by kernel_rfl, ?hy20⟩) (by assumption) ?rest20
    case hy20 =>
      intro w' hSw
      have hSw : Mods (· = m) w2 w' := hSw
      have hBq := HBf.out.mods hSw (fun e => HQM.out e)
      have hx0 : World.cell? w' ⟨q, 0, none⟩ = some (.string (bstr fnow)) := by rw [hBq.cell]; rfl
      clear hSw
      go_simp
      try with_reducible rfl
    change wpAnyH _ _ _ _ _ _ _ (Act.put _ (some 44) _) _
    try simp only [Act.put, List.setIfInBounds_toArray, List.set_cons_zero, List.set_cons_succ]
    refine wpAnyH_take (i := 4) (v := ?vv21) (by rfl) (by kernel_rfl) (by kernel_rfl) (by kernel_rfl) (by intro _ _ _ h; exact h) (Or.inl ⟨by kernel_rfl, ?hy21⟩) (by assumption) ?rest21
    case hy21 =>
      intro w' hSw
      have hSw : Mods (· = m) w2 w' := hSw
      clear hSw
      go_simp
      try with_reducible rfl
    change wpAnyH _ _ _ _ _ _ _ (Act.put _ (some 45) _) _
    try simp only [Act.put, List.setIfInBounds_toArray, List.set_cons_zero, List.set_cons_succ]
    refine wpAnyH_take (i := 5) (v := ?vv22) (by rfl) (by kernel_rfl) (by kernel_rfl) (by kernel_rfl) (by intro _ _ _ h; exact h) (Or.inl ⟨by kernel_rfl, ?hy22⟩) (by assumption) ?rest22
    case hy22 =>
      intro w' hSw
      have hSw : Mods (· = m) w2 w' := hSw
      clear hSw
      go_simp
      try with_reducible rfl
    change wpAnyH _ _ _ _ _ _ _ (Act.put _ (some 46) _) _
    try simp only [Act.put, List.setIfInBounds_toArray, List.set_cons_zero, List.set_cons_succ]
    refine wpAnyH_take (i := 6) (v := ?vv23) (by rfl) (by kernel_rfl) (by kernel_rfl) (by kernel_rfl) (by intro _ _ _ h; exact h) (Or.inl ⟨by kernel_rfl, ?hy23⟩) (by assumption) ?rest23
    case hy23 =>
      intro w' hSw
      have hSw : Mods (· = m) w2 w' := hSw
      have hc := Frm.str_at' (HI2.out.bytes hSw HBV2.out)
      clear hSw
      go_simp
      try with_reducible rfl
    change wpAnyH _ _ _ _ _ _ _ (Act.put _ (some 47) _) _
    try simp only [Act.put, List.setIfInBounds_toArray, List.set_cons_zero, List.set_cons_succ]
    refine wpAnyH_take (i := 8) (v := ?vv24) (by rfl) (by kernel_rfl) (by kernel_rfl) (by kernel_rfl) (by intro _ _ _ h; exact h) (Or.inl ⟨by kernel_rfl, ?hy24⟩) (by assumption) ?rest24
    case hy24 =>
      intro w' hSw
      have hSw : Mods (· = m) w2 w' := hSw
      clear hSw
      go_simp
      try with_reducible rfl
    change wpAnyH _ _ _ _ _ _ _ (Act.put _ (some 49) _) _
    try simp only [Act.put, List.setIfInBounds_toArray, List.set_cons_zero, List.set_cons_succ]
    refine wpAnyH_take (i := 9) (v := ?vv25) (by rfl) (by kernel_rfl) (by kernel_rfl) (by kernel_rfl) (by intro _ _ _ h; exact h) (Or.inl ⟨by kernel_rfl, ?hy25⟩) (by assumption) ?rest25
    case hy25 =>
      intro w' hSw
      have hSw : Mods (· = m) w2 w' := hSw
      have hBq := HBf.out.mods hSw (fun e => HQM.out e)
      have hx0 : World.cell? w' ⟨q, 1, none⟩ = some (.string (bstr fsure)) := by rw [hBq.cell]; rfl
      clear hSw
      go_simp
      try with_reducible rfl
    change wpAnyH _ _ _ _ _ _ _ (Act.put _ (some 50) _) _
    try simp only [Act.put, List.setIfInBounds_toArray, List.set_cons_zero, List.set_cons_succ]
    refine wpAnyH_take (i := 10) (v := ?vv26) (by rfl) (by kernel_rfl) (by kernel_rfl) (by kernel_rfl) (by intro _ _ _ h; exact h) (Or.inl ⟨by kernel_rfl, ?hy26⟩) (by assumption) ?rest26
    case hy26 =>
      intro w' hSw
      have hSw : Mods (· = m) w2 w' := hSw
      clear hSw
      go_simp
      try with_reducible rfl
    change wpAnyH _ _ _ _ _ _ _ (Act.put _ (some 51) _) _
    try simp only [Act.put, List.setIfInBounds_toArray, List.set_cons_zero, List.set_cons_succ]
    refine wpAnyH_take (i := 11) (v := ?vv27) (by rfl) (by kernel_rfl) (by kernel_rfl) (by kernel_rfl) (by intro _ _ _ h; exact h) (Or.inl ⟨by kernel_rfl, ?hy27⟩) (by assumption) ?rest27
    case hy27 =>
      intro w' hSw
      have hSw : Mods (· = m) w2 w' := hSw
      clear hSw
      go_simp
      try with_reducible rfl
    change wpAnyH _ _ _ _ _ _ _ (Act.put _ (some 52) _) _
    try simp only [Act.put, List.setIfInBounds_toArray, List.set_cons_zero, List.set_cons_succ]
    refine wpAnyH_take (i := 12) (v := ?vv28) (by rfl) (by kernel_rfl) (by kernel_rfl) (by kernel_rfl) (by intro _ _ _ h; exact h) (Or.inl ⟨by kernel_rfl, ?hy28⟩) (by assumption) ?rest28
    case hy28 =>
      intro w' hSw
      have hSw : Mods (· = m) w2 w' := hSw
      clear hSw
      go_simp
      try with_reducible rfl
    change wpAnyH _ _ _ _ _ _ _ (Act.put _ (some 53) _) _
    try simp only [Act.put, List.setIfInBounds_toArray, List.set_cons_zero, List.set_cons_succ]
    refine wpAnyH_take (i := 13) (v := ?vv29) (by rfl) (by kernel_rfl) (by kernel_rfl) (by kernel_rfl) (by intro _ _ _ h; exact h) (Or.inl ⟨by kernel_rfl, ?hy29⟩) (by assumption) ?rest29
    case hy29 =>
      intro w' hSw
      have hSw : Mods (· = m) w2 w' := hSw
      have hc := Frm.str_at' (HI2.out.bytes hSw HBV2.out)
      clear hSw
      go_simp
      try with_reducible rfl
    change wpAnyH _ _ _ _ _ _ _ (Act.put _ (some 54) _) _
    try simp only [Act.put, List.setIfInBounds_toArray, List.set_cons_zero, List.set_cons_succ]
    refine wpAnyH_take (i := 14) (v := ?vv30) (by rfl) (by kernel_rfl) (by kernel_rfl) (by kernel_rfl) (by intro _ _ _ h; exact h) (Or.inl ⟨by kernel_rfl, ?hy30⟩) (by assumption) ?rest30
    case hy30 =>
      intro w' hSw
      have hSw : Mods (· = m) w2 w' := hSw
      clear hSw
      go_simp
      try with_reducible rfl
    change wpAnyH _ _ _ _ _ _ _ (Act.put _ (some 55) _) _
    try simp only [Act.put, List.setIfInBounds_toArray, List.set_cons_zero, List.set_cons_succ]
    refine wpAnyH_ready (rs := [7, 15]) (by kernel_rfl) (by simp) ?_
    refine AllReadyH.cons (o := _) rfl (fun K hK => ?_) ?_
    · go_simp
      refine (over_r _ fnow b a (by omega) (by omega) (by omega)).mono ?_
      rintro e x7 ⟨rfl, hk7⟩
      have HOd := Lib.hid (Frm.ownsRow_keeps HOd.out hk7)
      have HKX := Lib.hid (HKX.out.trans hk7)
      have hb := hHeld.trans (Mods.of_keeps (S := (· = m)) hk7) (fun y hy _ => hy)
      clear hk7
      go_wp2_with fail
      refine hK.out _ _ hb (fun _ => ?_)
      clear hK K hHeld
      have hHeld : Mods (· = m) w2 x7 := hb
      clear hb
      try simp only [Act.put, List.setIfInBounds_toArray, List.set_cons_zero, List.set_cons_succ]
      refine wpAnyH_ready (rs := [15]) (by kernel_rfl) (by simp) ?_
      refine AllReadyH.cons (o := _) rfl (fun K hK => ?_) ?_
      · go_simp
        obtain ⟨b8, hb8⟩ : ∃ z, z = (World.heap x7).size := ⟨_, rfl⟩
        have HB8 : Hid (Blk (World.alloc x7 (.cells #[.int .i64 (a : Int), .string (bstr b)] 127)) b8 127 #[.int .i64 (a : Int), .string (bstr b)]) := Lib.hid (Blk.new _ _ _ hb8)
        have HOd := Lib.hid (Frm.ownsRow_keeps HOd.out ((Keeps.refl _).alloc (.cells #[.int .i64 (a : Int), .string (bstr b)] 127)))
        have HKX := Lib.hid (HKX.out.alloc (.cells #[.int .i64 (a : Int), .string (bstr b)] 127))
        have hb := hHeld.alloc (.cells #[.int .i64 (a : Int), .string (bstr b)] 127)
        have HBB := Lib.hid hb8
        clear hb8
        generalize World.alloc x7 (.cells #[.int .i64 (a : Int), .string (bstr b)] 127) = x15 at *
        refine hK.out _ _ hb (fun _ => ?_)
        clear hK K hHeld
        have hHeld : Mods (· = m) w2 x15 := hb
        clear hb
        try simp only [Act.put, List.setIfInBounds_toArray, List.set_cons_zero, List.set_cons_succ]
        refine wpAnyH_ready (rs := [16]) (by kernel_rfl) (by simp) ?_
        refine AllReadyH.cons (o := _) rfl (fun K hK => ?_) ?_
        · refine step_appF (base := w2.heap.size) writok (by decide) rfl _ _ rfl (.slice p3 nw c3) nw 1 1 ⟨b8, 0, none⟩ (fwt.flatMap wrC) [.int .i64 (a : Int), .string (bstr b)] rfl (congrArg (fun g => Value.slice (some ⟨g, 0, none⟩) 1 1) HBB.out.symm) HOd.out rfl (fun j y hy => by rw [Go.WideShapes.add_plain, HB8.out.cell, Nat.zero_add]; simpa using hy) (by simp [Value.oneCell']) (by omega) (by decide) HKX.out.size ?_
          intro v16 x16 ho hg hf
          obtain ⟨p16, c16, rfl, -, -⟩ := Frm.ownsRow_form ho
          have HO16 := Lib.hid ho
          have HKX := Lib.hid (HKX.out.grown hg (Frm.ownsRow_base HOd.out))
          have hb := hHeld.grown hg (fun k hk hlt => by have := Frm.ownsRow_base HOd.out k hk; omega)
          clear ho hg hf HOd HB8
          show K (Act.put _ (some 57) _) x16
          refine hK.out _ _ hb (fun _ => ?_)
          clear hK K hHeld
          have hHeld : Mods (· = m) w2 x16 := hb
          clear hb
          try simp only [Act.put, List.setIfInBounds_toArray, List.set_cons_zero, List.set_cons_succ]
          refine wpAnyH_take (i := 17) (v := ?vv31) (by rfl) (by kernel_rfl) (by kernel_rfl) (by kernel_rfl) (by intro _ _ _ h; exact h) (Or.inl ⟨by kernel_rfl, ?hy31⟩) (by assumption) ?rest31
          case hy31 =>
            intro w' hSw
            have hSw : Mods (· = m) w2 w' := hSw
            clear hSw
            go_simp
            try with_reducible rfl
          change wpAnyH _ _ _ _ _ _ _ (Act.put _ (some 58) _) _
          try simp only [Act.put, List.setIfInBounds_toArray, List.set_cons_zero, List.set_cons_succ]
          refine wpAnyH_ready (rs := [18]) (by kernel_rfl) (by simp) ?_
          refine AllReadyH.cons (o := _) rfl (fun K hK => ?_) ?_
          · go_simp
            have HWI := Lib.hid (with_r (M := More M w x16) (((HR.out.keeps (HKW.out.trans HKX.out)).wide (fun y hy => .inl hy)).more (Nat.le_succ k)) (by omega) hi (wroteR ⟨fnow, fsure, fwt⟩ ⟨a, b⟩) (.slice p16 (nw + 1) c16) (by have h0 := ownsRow_low HO16.out (Nat.zero_le _); rw [show (wroteR ⟨fnow, fsure, fwt⟩ ⟨a, b⟩).waits.length = nw + 1 from by simp [wroteR, HNW.out], show (wroteR ⟨fnow, fsure, fwt⟩ ⟨a, b⟩).waits.flatMap wrC = fwt.flatMap wrC ++ [.int .i64 (a : Int), .string (bstr b)] from by simp [wroteR, wrC]]; exact h0) (fun y hy => .inr ⟨by have := Frm.ownsRow_base HO16.out y hy; omega, (owns_ty HO16.out hy).lt⟩) HFU.out)
            unfold filA wroteR at HWI
            refine HWI.out.mono ?_
            rintro e xF ⟨rfl, h6, hm6⟩
            have H6 := Lib.hid h6
            have hb := hHeld.trans hm6 (fun y hy _ => hy)
            have hsX := HKX.out.size
            have hsF := hm6.size
            clear h6 hm6 HWI
            go_wp2_with fail
            refine hK.out _ _ hb (fun _ => ?_)
            clear hK K hHeld
            have hHeld : Mods (· = m) w2 xF := hb
            clear hb
            try simp only [Act.put, List.setIfInBounds_toArray, List.set_cons_zero, List.set_cons_succ]
            refine wpAnyH_done (by kernel_rfl) ?_ _
            refine NoPanic.normal ?_
            go_wp2_with fail
            go_ret
            rw [HX.out]
            refine ⟨rfl, H6.out.wide (fun y hy => ?_), (Mods.of_keeps (S := (· = m)) HKW.out).trans hHeld (fun y hy _ => hy)⟩
            rcases hy with (hy | hy) | hy
            · exact .inl hy
            · exact .inr (by omega)
            · exact .inr (by omega)
          exact AllReadyH.nil
        exact AllReadyH.nil
      exact AllReadyH.nil
    refine AllReadyH.cons (o := _) rfl (fun K hK => ?_) ?_
    · go_simp
      obtain ⟨b8, hb8⟩ : ∃ z, z = (World.heap xs).size := ⟨_, rfl⟩
      have HB8 : Hid (Blk (World.alloc xs (.cells #[.int .i64 (a : Int), .string (bstr b)] 127)) b8 127 #[.int .i64 (a : Int), .string (bstr b)]) := Lib.hid (Blk.new _ _ _ hb8)
      have HOd := Lib.hid (Frm.ownsRow_keeps HOd.out ((Keeps.refl _).alloc (.cells #[.int .i64 (a : Int), .string (bstr b)] 127)))
      have HKX := Lib.hid (HKX.out.alloc (.cells #[.int .i64 (a : Int), .string (bstr b)] 127))
      have hb := hHeld.alloc (.cells #[.int .i64 (a : Int), .string (bstr b)] 127)
      have HBB := Lib.hid hb8
      clear hb8
      generalize World.alloc xs (.cells #[.int .i64 (a : Int), .string (bstr b)] 127) = x15 at *
      refine hK.out _ _ hb (fun _ => ?_)
      clear hK K hHeld
      have hHeld : Mods (· = m) w2 x15 := hb
      clear hb
      try simp only [Act.put, List.setIfInBounds_toArray, List.set_cons_zero, List.set_cons_succ]
      refine wpAnyH_ready (rs := [7]) (by kernel_rfl) (by simp) ?_
      refine AllReadyH.cons (o := _) rfl (fun K hK => ?_) ?_
      · go_simp
        refine (over_r _ fnow b a (by omega) (by omega) (by omega)).mono ?_
        rintro e x7 ⟨rfl, hk7⟩
        have HOd := Lib.hid (Frm.ownsRow_keeps HOd.out hk7)
        have HKX := Lib.hid (HKX.out.trans hk7)
        have HB8 := Lib.hid (HB8.out.keeps hk7)
        have hb := hHeld.trans (Mods.of_keeps (S := (· = m)) hk7) (fun y hy _ => hy)
        clear hk7
        go_wp2_with fail
        refine hK.out _ _ hb (fun _ => ?_)
        clear hK K hHeld
        have hHeld : Mods (· = m) w2 x7 := hb
        clear hb
        try simp only [Act.put, List.setIfInBounds_toArray, List.set_cons_zero, List.set_cons_succ]
        refine wpAnyH_ready (rs := [16]) (by kernel_rfl) (by simp) ?_
        refine AllReadyH.cons (o := _) rfl (fun K hK => ?_) ?_
        · refine step_appF (base := w2.heap.size) writok (by decide) rfl _ _ rfl (.slice p3 nw c3) nw 1 1 ⟨b8, 0, none⟩ (fwt.flatMap wrC) [.int .i64 (a : Int), .string (bstr b)] rfl (congrArg (fun g => Value.slice (some ⟨g, 0, none⟩) 1 1) HBB.out.symm) HOd.out rfl (fun j y hy => by rw [Go.WideShapes.add_plain, HB8.out.cell, Nat.zero_add]; simpa using hy) (by simp [Value.oneCell']) (by omega) (by decide) HKX.out.size ?_
          intro v16 x16 ho hg hf
          obtain ⟨p16, c16, rfl, -, -⟩ := Frm.ownsRow_form ho
          have HO16 := Lib.hid ho
          have HKX := Lib.hid (HKX.out.grown hg (Frm.ownsRow_base HOd.out))
          have hb := hHeld.grown hg (fun k hk hlt => by have := Frm.ownsRow_base HOd.out k hk; omega)
          clear ho hg hf HOd HB8
          show K (Act.put _ (some 57) _) x16
          refine hK.out _ _ hb (fun _ => ?_)
          clear hK K hHeld
          have hHeld : Mods (· = m) w2 x16 := hb
          clear hb
          try simp only [Act.put, List.setIfInBounds_toArray, List.set_cons_zero, List.set_cons_succ]
          refine wpAnyH_take (i := 17) (v := ?vv32) (by rfl) (by kernel_rfl) (by kernel_rfl) (by kernel_rfl) (by intro _ _ _ h; exact h) (Or.inl ⟨by kernel_rfl, ?hy32⟩) (by assumption) ?rest32
          case hy32 =>
            intro w' hSw
            have hSw : Mods (· = m) w2 w' := hSw
            clear hSw
            go_simp
            try with_reducible rfl
          change wpAnyH _ _ _ _ _ _ _ (Act.put _ (some 58) _) _
          try simp only [Act.put, List.setIfInBounds_toArray, List.set_cons_zero, List.set_cons_succ]
          refine wpAnyH_ready (rs := [18]) (by kernel_rfl) (by simp) ?_
          refine AllReadyH.cons (o := _) rfl (fun K hK => ?_) ?_
          · go_simp
            have HWI := Lib.hid (with_r (M := More M w x16) (((HR.out.keeps (HKW.out.trans HKX.out)).wide (fun y hy => .inl hy)).more (Nat.le_succ k)) (by omega) hi (wroteR ⟨fnow, fsure, fwt⟩ ⟨a, b⟩) (.slice p16 (nw + 1) c16) (by have h0 := ownsRow_low HO16.out (Nat.zero_le _); rw [show (wroteR ⟨fnow, fsure, fwt⟩ ⟨a, b⟩).waits.length = nw + 1 from by simp [wroteR, HNW.out], show (wroteR ⟨fnow, fsure, fwt⟩ ⟨a, b⟩).waits.flatMap wrC = fwt.flatMap wrC ++ [.int .i64 (a : Int), .string (bstr b)] from by simp [wroteR, wrC]]; exact h0) (fun y hy => .inr ⟨by have := Frm.ownsRow_base HO16.out y hy; omega, (owns_ty HO16.out hy).lt⟩) HFU.out)
            unfold filA wroteR at HWI
            refine HWI.out.mono ?_
            rintro e xF ⟨rfl, h6, hm6⟩
            have H6 := Lib.hid h6
            have hb := hHeld.trans hm6 (fun y hy _ => hy)
            have hsX := HKX.out.size
            have hsF := hm6.size
            clear h6 hm6 HWI
            go_wp2_with fail
            refine hK.out _ _ hb (fun _ => ?_)
            clear hK K hHeld
            have hHeld : Mods (· = m) w2 xF := hb
            clear hb
            try simp only [Act.put, List.setIfInBounds_toArray, List.set_cons_zero, List.set_cons_succ]
            refine wpAnyH_done (by kernel_rfl) ?_ _
            refine NoPanic.normal ?_
            go_wp2_with fail
            go_ret
            rw [HX.out]
            refine ⟨rfl, H6.out.wide (fun y hy => ?_), (Mods.of_keeps (S := (· = m)) HKW.out).trans hHeld (fun y hy _ => hy)⟩
            rcases hy with (hy | hy) | hy
            · exact .inl hy
            · exact .inr (by omega)
            · exact .inr (by omega)
          exact AllReadyH.nil
        exact AllReadyH.nil
      exact AllReadyH.nil
    exact AllReadyH.nil
/-- the name's file -/
theorem RefIn.named {fv nv sv wv : Value} {fw : List Value} (h : RefIn w M m fv nv sv wv fw d k) {x : Str} {i : Nat} (hl : Vd.look d.now x = some i) : i < d.files.length ∧ ∃ y, (y, i) ∈ d.now := by
  have hm := (look_mem h.fit.an).1 hl
  exact ⟨h.fit.is _ hm, _, hm⟩
theorem beginR_filAt (d : RDsk) (i : Nat) : filAt (beginR d).1 i = filAt d i := by unfold filAt; rw [(beginR_files d).1]
set_option maxRecDepth 100000 in
set_option maxHeartbeats 4000000 in
theorem rappend_r (h : RefAt w M m d k) (hk : k ≤ 90000) (x : Str) {b : Str} {bv : Value} (hb : Row w bv (b.map u8v)) (hbl : b.length ≤ 1000000000) : Calls Tryz.prog 94 #[.pointer (some ⟨m, 0, none⟩), .string (bstr x), bv] w (RDid w M m (appendR d x b) (k + 2)) := by
  have HB := Lib.hid (begin_r w h (by omega))
  have HX0 : Hid (appendR d x b = if (beginR d).2 ≠ 0 then beginR d else match Vd.look d.now x with | none => ((beginR d).1, 7) | some i => writeR (beginR d).1 i ⟨(filAt (beginR d).1 i).now.length, b⟩) := Lib.hid (by
    unfold appendR
    split
    · rfl
    · cases Vd.look d.now x with
      | none => rfl
      | some i => simp only [beginR_filAt])
  have HFI := Lib.hid (beginR_files d)
  have HBY := Lib.hid (fun (w' : World) (hm : Mods (· = m) w w') => show Row w' bv (b.map u8v) from by obtain ⟨_, _, _, _, _, hh⟩ := h; exact hh.bytes hm hb)
  obtain ⟨pb, cb, rfl, -, -⟩ := hb.formB
  clear h hb
  unfold RDid
  generalize beginR d = r at *
  obtain ⟨d1, er⟩ := r
  simp only at HB HX0 HFI
  go_enter Tryz.func94, Tryz.ntmps94
  go_wp2_with fail
  refine HB.out.mono ?_
  rintro e w1 ⟨rfl, h1, hm1⟩
  have H1 := Lib.hid h1
  have HM1 := Lib.hid hm1
  clear h1 hm1 HB
  by_cases he : er = 0
  · subst he
    have HX1 := Lib.hid (HX0.out.trans (if_neg (by simp)))
    have HF := Lib.hid (rfind_r H1.out x)
    have HFR : Hid (findR d1.now x = match Vd.look d1.now x with | none => -1 | some i => (i : Int)) := Lib.hid rfl
    cases hl : Vd.look d1.now x with
    | none =>
      have HX := Lib.hid (show appendR d x b = (d1, 7) from by rw [HX1.out, ← HFI.out.2.1, hl])
      have hfr : findR d1.now x = -1 := by rw [HFR.out, hl]
      rw [hfr] at HF
      clear hfr hl HFR
      go_wp2_with fail
      refine HF.out.mono ?_
      rintro e w2 ⟨rfl, rfl⟩
      go_wp2_with fail
      go_ret
      rw [HX.out]
      exact ⟨rfl, (H1.out.wide (fun y hy => .inl hy)).more (by omega), HM1.out⟩
    | some i =>
      obtain ⟨fv, nv, sv, wv, fw, hi⟩ := H1.out
      obtain ⟨hif, hnm⟩ := hi.named hl
      have HX := Lib.hid (show appendR d x b = writeR d1 i ⟨d1.files[i].now.length, b⟩ from by rw [HX1.out, ← HFI.out.2.1, hl]; show writeR d1 i ⟨(filAt d1 i).now.length, b⟩ = _; rw [filAt_get hif])
      have hfr : findR d1.now x = (i : Int) := by rw [HFR.out, hl]
      rw [hfr] at HF
      have HW := Lib.hid (write_r H1.out (by omega) hif hnm (HBY.out _ HM1.out) hbl (Nat.le_refl _))
      obtain ⟨c0, -⟩ := hi.cells
      obtain ⟨bf, of, cf, hfv, hrg⟩ := hi.file hif
      subst hfv
      have hf0 := hrg 0 _ rfl
      rw [Nat.add_zero] at hf0
      have hsz := bstr_size d1.files[i].now
      have hfl : d1.files.length ≤ 1000000 := by have := hi.fit.f; omega
      have hfb := (hi.fit.b _ (List.getElem_mem hif)).1
      have hil : (i : Int) < (d1.files.length : Int) := by omega
      clear hfr hl HFR hi hrg hnm
      generalize d1.files[i].now = y at *
      go_wp2_with fail
      refine HF.out.mono ?_
      rintro e w2 ⟨rfl, rfl⟩
      go_wp2_with fail
      unfold RDid at HW
      refine HW.out.mono ?_
      rintro e w2 ⟨rfl, h2, hm2⟩
      have H2 := Lib.hid h2
      have HM2 := Lib.hid hm2
      clear h2 hm2 HW HF c0 hf0
      go_wp2_with fail
      go_ret
      rw [HX.out]
      exact ⟨rfl, Mods.more_of HM1.out H2.out, HM1.out.trans HM2.out (fun y hy _ => hy)⟩
  · have HX := Lib.hid (HX0.out.trans (if_pos he))
    have he' : (er != 0) = true := by simp [he]
    clear he
    go_wp2_with fail
    go_ret
    rw [HX.out]
    exact ⟨rfl, (H1.out.wide (fun y hy => .inl hy)).more (by omega), HM1.out⟩
end
end Rf
end Go.Proofs.YtchjncnolmiejaaGreat

/- safe: steps of the disk; Append. -/
namespace Go.Proofs.YtchjncnolmiejaaGreat
open Go.RowKit
namespace Sf
open Vd
/-- a slice that no change of S since w1 reaches -/
def Stays (S : Nat → Prop) (w1 : World) (v : Value) (l : List Value) : Prop := ∀ w2, Mods S w1 w2 → Row w2 v l
section
variable {S : Nat → Prop} {w1 w wb w' : World} {g : Nat} {d : Dsk} {k : Nat}
theorem Stays.base {v : Value} {l : List Value} (h : Stays S w1 v l) (ho : On S w1 w g d k) (hk : Keeps w wb) : Stays (More S w1 w) wb v l := fun w2 hm => h w2 (by
  have hs := hk.size
  have hs0 := ho.mods.size
  refine ho.mods.trans ((Mods.of_keeps (S := More S w1 w) hk).trans hm (fun y hy _ => hy)) (fun y hy hlt => ?_)
  rcases hy with hy | hy
  · exact hy
  · omega)
theorem Stays.now {v : Value} {l : List Value} (h : Stays S w1 v l) (ho : On S w1 w g d k) : ∀ w2, Mods (More S w1 w) w w2 → Row w2 v l := fun w2 hm => h w2 (ho.mods.step hm)
theorem On.kept (ho : On S wb w' g d k) {b : Nat} {t : TypeId} {cs : Array Value} (hb : Blk wb b t cs) (hn : ¬ S b) : Blk w' b t cs := hb.mods ho.mods hn
theorem On.more {k' : Nat} (ho : On S w1 w g d k) (h : k ≤ k') : On S w1 w g d k' := ⟨ho.dsk, ho.mods, ho.few.mono h, ho.lt⟩
theorem thenD_ok {r : Dsk × Int} {f : Dsk → Dsk × Int} (h : r.2 = 0) : thenD r f = f r.1 := if_pos h
theorem thenD_no {r : Dsk × Int} {f : Dsk → Dsk × Int} (h : r.2 ≠ 0) : thenD r f = r := if_neg h
/-- where steps stand -/
def Stp (S : Nat → Prop) (wb : World) (g : Nat) (rs : List ((Dsk × Int) × Nat)) (i : Nat) (c : Int) (w' : World) : Prop := ∃ q, rs[i]? = some q ∧ Tells S wb g q.1 q.2 c w'
theorem steps2_on (h : On S wb wb g d k) {B : Nat} {t : TypeId} {c1 c2 : Clo} (hB : Blk wb B t #[cloV c1, cloV c2]) (hn : ¬ S B) (e1 : Enters c1.1 (c1.2.1 ++ c1.2.2)) (e2 : Enters c2.1 (c2.2.1 ++ c2.2.2)) (f1 f2 : Dsk → Dsk × Int) {k1 k2 : Nat} (hk : k1 ≤ k2)
    (h1 : ∀ w', On S wb w' g d k → Calls Tryz.prog c1.1 (c1.2.1 ++ c1.2.2) w' (Says (Tells S wb g (f1 d) k1))) (h2 : ∀ w' d', On S wb w' g d' k1 → Calls Tryz.prog c2.1 (c2.2.1 ++ c2.2.2) w' (Says (Tells S wb g (f2 d') k2))) :
    Calls Tryz.prog 87 #[.slice (some ⟨B, 0, none⟩) 2 2] wb (Says (Tells S wb g (thenD (f1 d) f2) k2)) := by
  have := steps_any wb B [c1, c2] (by simp) (Stp S wb g [((d, 0), k), (f1 d, k1), (thenD (f1 d) f2, k2)])
    (fun i hi => by
      rcases (show i = 0 ∨ i = 1 by simp at hi; omega) with rfl | rfl
      · exact e1
      · exact e2)
    (fun i hi w' hP => by
      obtain ⟨q, -, -, ho⟩ := hP
      have hb := On.kept ho hB hn
      rcases (show i = 0 ∨ i = 1 by simp at hi; omega) with rfl | rfl <;> (rw [hb.cell]; rfl))
    (fun i hi w' hP => by
      obtain ⟨q, hq, hc, ho⟩ := hP
      rcases (show i = 0 ∨ i = 1 by simp at hi; omega) with rfl | rfl
      · simp at hq
        subst hq
        exact (h1 w' ho).mono (fun e w'' ⟨c, he, ht⟩ => ⟨c, he, _, rfl, ht⟩)
      · simp at hq
        subst hq
        exact (h2 w' _ ho).mono (fun e w'' ⟨c, he, ht⟩ => ⟨c, he, _, rfl, by
          have hc : (0 : Int) = (f1 d).2 := hc
          show Tells S wb g (thenD (f1 d) f2) k2 c w''
          rw [thenD_ok hc.symm]
          exact ht⟩))
    (fun i c w' hi hP hc => by
      obtain ⟨q, hq, hcc, ho⟩ := hP
      rcases (show i = 0 ∨ i = 1 by simp at hi; omega) with rfl | rfl
      · simp at hq
        subst hq
        have hcc : c = (f1 d).2 := hcc
        refine ⟨_, rfl, ?_⟩
        show Tells S wb g (thenD (f1 d) f2) k2 c w'
        rw [thenD_no (by rw [← hcc]; exact hc)]
        exact ⟨hcc, On.more ho hk⟩
      · exact ⟨q, hq, hcc, ho⟩)
    ⟨_, rfl, rfl, h⟩
  refine this.mono (fun e w' hs => ?_)
  obtain ⟨c, he, q, hq, ht⟩ := hs
  simp at hq
  subst hq
  exact ⟨c, he, ht⟩
theorem steps4_on (h : On S wb wb g d k) {B : Nat} {t : TypeId} {c1 c2 c3 c4 : Clo} (hB : Blk wb B t #[cloV c1, cloV c2, cloV c3, cloV c4]) (hn : ¬ S B) (e1 : Enters c1.1 (c1.2.1 ++ c1.2.2)) (e2 : Enters c2.1 (c2.2.1 ++ c2.2.2)) (e3 : Enters c3.1 (c3.2.1 ++ c3.2.2)) (e4 : Enters c4.1 (c4.2.1 ++ c4.2.2)) (f1 f2 f3 f4 : Dsk → Dsk × Int) {k1 k2 k3 k4 : Nat} (hk : k1 ≤ k2) (hk' : k2 ≤ k3) (hk'' : k3 ≤ k4)
    (h1 : ∀ w', On S wb w' g d k → Calls Tryz.prog c1.1 (c1.2.1 ++ c1.2.2) w' (Says (Tells S wb g (f1 d) k1))) (h2 : ∀ w' d', On S wb w' g d' k1 → Calls Tryz.prog c2.1 (c2.2.1 ++ c2.2.2) w' (Says (Tells S wb g (f2 d') k2)))
    (h3 : ∀ w' d', On S wb w' g d' k2 → Calls Tryz.prog c3.1 (c3.2.1 ++ c3.2.2) w' (Says (Tells S wb g (f3 d') k3))) (h4 : ∀ w' d', On S wb w' g d' k3 → Calls Tryz.prog c4.1 (c4.2.1 ++ c4.2.2) w' (Says (Tells S wb g (f4 d') k4))) :
    Calls Tryz.prog 87 #[.slice (some ⟨B, 0, none⟩) 4 4] wb (Says (Tells S wb g (thenD (thenD (thenD (f1 d) f2) f3) f4) k4)) := by
  have := steps_any wb B [c1, c2, c3, c4] (by simp) (Stp S wb g [((d, 0), k), (f1 d, k1), (thenD (f1 d) f2, k2), (thenD (thenD (f1 d) f2) f3, k3), (thenD (thenD (thenD (f1 d) f2) f3) f4, k4)])
    (fun i hi => by
      rcases (show i = 0 ∨ i = 1 ∨ i = 2 ∨ i = 3 by simp at hi; omega) with rfl | rfl | rfl | rfl
      · exact e1
      · exact e2
      · exact e3
      · exact e4)
    (fun i hi w' hP => by
      obtain ⟨q, -, -, ho⟩ := hP
      have hb := On.kept ho hB hn
      rcases (show i = 0 ∨ i = 1 ∨ i = 2 ∨ i = 3 by simp at hi; omega) with rfl | rfl | rfl | rfl <;> (rw [hb.cell]; rfl))
    (fun i hi w' hP => by
      obtain ⟨q, hq, hc, ho⟩ := hP
      rcases (show i = 0 ∨ i = 1 ∨ i = 2 ∨ i = 3 by simp at hi; omega) with rfl | rfl | rfl | rfl
      · simp at hq
        subst hq
        exact (h1 w' ho).mono (fun e w'' ⟨c, he, ht⟩ => ⟨c, he, _, rfl, ht⟩)
      · simp at hq
        subst hq
        exact (h2 w' _ ho).mono (fun e w'' ⟨c, he, ht⟩ => ⟨c, he, _, rfl, by
          have hc : (0 : Int) = (f1 d).2 := hc
          show Tells S wb g (thenD (f1 d) f2) k2 c w''
          rw [thenD_ok hc.symm]
          exact ht⟩)
      · simp at hq
        subst hq
        exact (h3 w' _ ho).mono (fun e w'' ⟨c, he, ht⟩ => ⟨c, he, _, rfl, by
          have hc : (0 : Int) = (thenD (f1 d) f2).2 := hc
          show Tells S wb g (thenD (thenD (f1 d) f2) f3) k3 c w''
          rw [thenD_ok (f := f3) hc.symm]
          exact ht⟩)
      · simp at hq
        subst hq
        exact (h4 w' _ ho).mono (fun e w'' ⟨c, he, ht⟩ => ⟨c, he, _, rfl, by
          have hc : (0 : Int) = (thenD (thenD (f1 d) f2) f3).2 := hc
          show Tells S wb g (thenD (thenD (thenD (f1 d) f2) f3) f4) k4 c w''
          rw [thenD_ok (f := f4) hc.symm]
          exact ht⟩))
    (fun i c w' hi hP hc => by
      obtain ⟨q, hq, hcc, ho⟩ := hP
      rcases (show i = 0 ∨ i = 1 ∨ i = 2 ∨ i = 3 by simp at hi; omega) with rfl | rfl | rfl | rfl
      · simp at hq
        subst hq
        have hcc : c = (f1 d).2 := hcc
        have hne : (f1 d).2 ≠ 0 := by rw [← hcc]; exact hc
        refine ⟨_, rfl, ?_⟩
        show Tells S wb g (thenD (thenD (thenD (f1 d) f2) f3) f4) k4 c w'
        rw [thenD_no (f := f2) hne, thenD_no (f := f3) hne, thenD_no (f := f4) hne]
        exact ⟨hcc, On.more ho (by omega)⟩
      · simp at hq
        subst hq
        have hcc : c = (thenD (f1 d) f2).2 := hcc
        have hne : (thenD (f1 d) f2).2 ≠ 0 := by rw [← hcc]; exact hc
        refine ⟨_, rfl, ?_⟩
        show Tells S wb g (thenD (thenD (thenD (f1 d) f2) f3) f4) k4 c w'
        rw [thenD_no (f := f3) hne, thenD_no (f := f4) hne]
        exact ⟨hcc, On.more ho (by omega)⟩
      · simp at hq
        subst hq
        have hcc : c = (thenD (thenD (f1 d) f2) f3).2 := hcc
        have hne : (thenD (thenD (f1 d) f2) f3).2 ≠ 0 := by rw [← hcc]; exact hc
        refine ⟨_, rfl, ?_⟩
        show Tells S wb g (thenD (thenD (thenD (f1 d) f2) f3) f4) k4 c w'
        rw [thenD_no (f := f4) hne]
        exact ⟨hcc, On.more ho (by omega)⟩
      · exact ⟨q, hq, hcc, ho⟩)
    ⟨_, rfl, rfl, h⟩
  refine this.mono (fun e w' hs => ?_)
  obtain ⟨c, he, q, hq, ht⟩ := hs
  simp at hq
  subst hq
  exact ⟨c, he, ht⟩
theorem append1_on (h : On S w1 w g d k) (hk : k ≤ 90000) {p q r : Nat} {x b : Str} {bv : Value} (hx : x.length ≤ maxLen) (hs : Stays S w1 bv (b.map u8v)) (hbl : b.length ≤ 1000000000) (hb : Boxes w p q g x) (hr : Blk w r 22 #[bv]) : Calls Tryz.prog 110 #[.pointer (some ⟨p, 0, none⟩), .pointer (some ⟨q, 0, none⟩), .pointer (some ⟨r, 0, none⟩)] w (Says (Tells S w1 g (appendD d x b) (k + 1))) := by
  have HC := Lib.hid (append_on h hk x hx (hs.now h) hbl)
  have c0 : w.cell? ⟨p, 0, none⟩ = some (.pointer (some ⟨g, 0, none⟩)) := by rw [hb.dp.cell]; rfl
  have c1 : w.cell? ⟨q, 0, none⟩ = some (.string (bstr x)) := by rw [hb.nm.cell]; rfl
  have c2 : w.cell? ⟨r, 0, none⟩ = some bv := by rw [hr.cell]; rfl
  clear h hb hs hr
  generalize appendD d x b = r at *
  obtain ⟨d2, er⟩ := r
  go_enter Tryz.func110, Tryz.ntmps110
  go_wp2_with fail
  refine HC.out.mono ?_
  rintro e w2 ⟨rfl, ho⟩
  have HO := Lib.hid ho
  clear ho HC c0 c1 c2
  go_wp2_with fail
  go_ret
  exact ⟨er, rfl, rfl, HO.out⟩
theorem append2_on (h : On S w1 w g d k) (hk : k ≤ 89990) {p q : Nat} {x : Str} (hx : x.length ≤ maxLen) (hb : Boxes w p q g x) : Calls Tryz.prog 112 #[.pointer (some ⟨p, 0, none⟩), .pointer (some ⟨q, 0, none⟩)] w (Says (Tells S w1 g (sSync x d) (k + 2))) := by
  have HC := Lib.hid (ssync_on h hk x hx)
  have c0 : w.cell? ⟨p, 0, none⟩ = some (.pointer (some ⟨g, 0, none⟩)) := by rw [hb.dp.cell]; rfl
  have c1 : w.cell? ⟨q, 0, none⟩ = some (.string (bstr x)) := by rw [hb.nm.cell]; rfl
  clear h hb
  generalize sSync x d = r at *
  obtain ⟨d2, er⟩ := r
  go_enter Tryz.func112, Tryz.ntmps112
  go_wp2_with fail
  refine HC.out.mono ?_
  rintro e w2 ⟨c, rfl, rfl, ho⟩
  have HO := Lib.hid ho
  clear ho HC c0 c1
  go_wp2_with fail
  go_ret
  exact ⟨_, rfl, rfl, HO.out⟩
theorem sappend_on (h : On S w1 w g d k) (hk : k ≤ 89980) {x b : Str} {p0 : Option Addr} {c0 : Nat} (hx : x.length ≤ maxLen) (hs : Stays S w1 (.slice p0 b.length c0) (b.map u8v)) (hbl : b.length ≤ 1000000000) : Calls Tryz.prog 67 #[.pointer (some ⟨g, 0, none⟩), .string (bstr x), .slice p0 b.length c0] w (Says (Tells S w1 g (sAppend x b d) (k + 3))) := by
  have H := Lib.hid h
  have HS := Lib.hid hs
  clear h hs
  go_enter Tryz.func67, Tryz.ntmps67
  go_wp2_with fail
  generalize hW : World.alloc _ _ = wb
  have HB := Lib.hid (show Boxes wb w.heap.size (w.heap.size + 1) g x from by
    rw [← hW]
    exact ⟨(((Blk.new _ _ _ rfl).alloc _).alloc _).alloc _, ((Blk.new _ _ _ (by rw [Frm.alloc_size])).alloc _).alloc _⟩)
  have HR := Lib.hid (show Blk wb (w.heap.size + 1 + 1) 22 #[.slice p0 b.length c0] from by
    rw [← hW]
    exact (Blk.new _ _ _ (by rw [Frm.alloc_size, Frm.alloc_size])).alloc _)
  have HBB := Lib.hid (show Blk wb (w.heap.size + 1 + 1 + 1) 135 #[cloV (110, #[], #[.pointer (some ⟨w.heap.size, 0, none⟩), .pointer (some ⟨w.heap.size + 1, 0, none⟩), .pointer (some ⟨w.heap.size + 1 + 1, 0, none⟩)]), cloV (112, #[], #[.pointer (some ⟨w.heap.size, 0, none⟩), .pointer (some ⟨w.heap.size + 1, 0, none⟩)])] from by
    rw [← hW]
    exact Blk.new _ _ _ (by rw [Frm.alloc_size, Frm.alloc_size, Frm.alloc_size]))
  have HK := Lib.hid (show Keeps w wb from by rw [← hW]; exact ((((Keeps.refl _).alloc _).alloc _).alloc _).alloc _)
  clear hW
  have HST := Lib.hid (steps2_on (H.out.base HK.out) HBB.out (fun hy => by
      have h0 := H.out.mods.size
      rcases hy with hy | hy
      · have := H.out.lt _ hy
        omega
      · omega) (enters_of Tryz.func110 (by kernel_rfl) rfl _) (enters_of Tryz.func112 (by kernel_rfl) rfl _) (fun d => appendD d x b) (sSync x) (k1 := k + 1) (k2 := k + 3) (by omega)
    (fun w' ho => append1_on ho (by omega) hx (HS.out.base H.out HK.out) hbl ⟨H.out.blk ho HB.out.dp (Nat.le_refl _), H.out.blk ho HB.out.nm (by omega)⟩ (H.out.blk ho HR.out (by omega)))
    (fun w' d' ho => append2_on ho (by omega) hx ⟨H.out.blk ho HB.out.dp (Nat.le_refl _), H.out.blk ho HB.out.nm (by omega)⟩))
  refine HST.out.mono ?_
  rintro e w2 ⟨c, rfl, rfl, ho⟩
  have HO := Lib.hid (H.out.back HK.out ho)
  clear ho HST
  go_wp2_with fail
  go_ret
  exact ⟨_, rfl, rfl, HO.out⟩
end
end Sf
end Go.Proofs.YtchjncnolmiejaaGreat
