/- Several texts in one: RfDisk, RfBegin, RfTurn, RfUnlink, RfName, RfRename. -/
import Derived.Test.YtchjncnolmiejaaGreatK37
/- The document's disk in memory; begin, Find, Failing, Arm. -/
namespace Go.Proofs.YtchjncnolmiejaaGreat
open Go.RowKit
namespace Rf
open Vd
def trC (t : RTurn) : List Value := (trA t).toList
theorem trC_len (t : RTurn) : (trC t).length = 3 := rfl
def wrC (p : Pat) : List Value := [.int .i64 (p.place : Int), .string (bstr p.b)]
theorem wrC_len (p : Pat) : (wrC p).length = 2 := rfl
def filC (f : RFil × Value) : List Value := [.string (bstr f.1.now), .string (bstr f.1.sure), f.2]
theorem filC_len (f : RFil × Value) : (filC f).length = 3 := rfl
def rdA (d : RDsk) (fv nv sv wv : Value) : Array Value := #[fv, nv, sv, wv, .int .i64 d.cap, .bool d.down, .int .i64 d.calls, .int .i64 d.fail, .int .i64 d.crash, .int .i64 d.err]
/-- bounds of the document's disk -/
structure RFit (d : RDsk) (k : Nat) : Prop where
  f : d.files.length ≤ k
  n : d.now.length ≤ k
  s : d.sure.length ≤ k
  w : d.waits.length ≤ k
  p : ∀ x ∈ d.files, x.waits.length ≤ k
  b : ∀ x ∈ d.files, x.now.length ≤ 1000000000 ∧ x.sure.length ≤ 1000000000
  c0 : 0 ≤ d.calls
  c1 : d.calls ≤ k
  t1 : -1 ≤ d.fail ∧ d.fail ≤ 9223372036854775807
  t2 : -1 ≤ d.crash ∧ d.crash ≤ 9223372036854775807
  an : AscN d.now
  au : AscN d.sure
  is : ∀ p ∈ d.now, p.2 < d.files.length
  cap : 1 ≤ d.cap ∧ d.cap ≤ 4194304
structure RefIn (w : World) (M : Nat → Prop) (m : Nat) (fv nv sv wv : Value) (fw : List Value) (d : RDsk) (k : Nat) : Prop where
  blk : Blk w m 59 (rdA d fv nv sv wv)
  files : w.ownsRow 0 93 3 fv d.files.length ((d.files.zip fw).flatMap filC)
  len : fw.length = d.files.length
  waits : ∀ i (h : i < fw.length) (h2 : i < d.files.length), w.ownsRow 0 127 2 fw[i] d.files[i].waits.length (d.files[i].waits.flatMap wrC)
  now : NmsOwn w 0 nv d.now
  sure : NmsOwn w 0 sv d.sure
  turns : w.ownsRow 0 131 3 wv d.waits.length (d.waits.flatMap trC)
  sm : M m
  sf : ∀ y, fv.ownBlock = some y → M y
  sn : ∀ y, nv.ownBlock = some y → M y
  ss : ∀ y, sv.ownBlock = some y → M y
  st : ∀ y, wv.ownBlock = some y → M y
  sw : ∀ v ∈ fw, ∀ y, v.ownBlock = some y → M y
  fit : RFit d k
def RefAt (w : World) (M : Nat → Prop) (m : Nat) (d : RDsk) (k : Nat) : Prop := ∃ fv nv sv wv fw, RefIn w M m fv nv sv wv fw d k
section
variable {w w' : World} {M : Nat → Prop} {m : Nat} {fv nv sv wv : Value} {fw : List Value} {d : RDsk} {k : Nat}
theorem NmsOwn.mods {T : Nat → Prop} {v : Value} {l : Nms} {base : Nat} (h : NmsOwn w base v l) (hm : Mods T w w') (hn : ∀ y, v.ownBlock = some y → ¬ T y) : NmsOwn w' base v l := Frm.ownsRow_mods h hm hn
theorem RefIn.apart (h : RefIn w M m fv nv sv wv fw d k) {T : Nat → Prop} (hm : Mods T w w') (hd : ∀ y, M y → ¬ T y) : RefIn w' M m fv nv sv wv fw d k :=
  { h with
    blk := h.blk.mods hm (hd _ h.sm)
    files := Frm.ownsRow_mods h.files hm (fun y hy => hd _ (h.sf y hy))
    waits := fun i h1 h2 => Frm.ownsRow_mods (h.waits i h1 h2) hm (fun y hy => hd _ (h.sw _ (List.getElem_mem h1) y hy))
    now := h.now.mods hm (fun y hy => hd _ (h.sn y hy))
    sure := h.sure.mods hm (fun y hy => hd _ (h.ss y hy))
    turns := Frm.ownsRow_mods h.turns hm (fun y hy => hd _ (h.st y hy)) }
theorem RefAt.apart (h : RefAt w M m d k) {T : Nat → Prop} (hm : Mods T w w') (hd : ∀ y, M y → ¬ T y) : RefAt w' M m d k := let ⟨_, _, _, _, _, h⟩ := h; ⟨_, _, _, _, _, h.apart hm hd⟩
theorem RefAt.keeps (h : RefAt w M m d k) (hk : Keeps w w') : RefAt w' M m d k := h.apart (T := fun _ => False) (Mods.of_keeps hk) (fun _ _ h => h)
theorem RefIn.wide (h : RefIn w M m fv nv sv wv fw d k) {T : Nat → Prop} (hT : ∀ y, M y → T y) : RefIn w T m fv nv sv wv fw d k :=
  { h with sm := hT _ h.sm, sf := fun y hy => hT _ (h.sf y hy), sn := fun y hy => hT _ (h.sn y hy), ss := fun y hy => hT _ (h.ss y hy), st := fun y hy => hT _ (h.st y hy), sw := fun v hv y hy => hT _ (h.sw v hv y hy) }
theorem RefAt.wide (h : RefAt w M m d k) {T : Nat → Prop} (hT : ∀ y, M y → T y) : RefAt w T m d k := let ⟨_, _, _, _, _, h⟩ := h; ⟨_, _, _, _, _, h.wide hT⟩
/-- no slice of it lies in its own block -/
theorem RefIn.rows (h : RefIn w M m fv nv sv wv fw d k) (hm : Mods (· = m) w w') : w'.ownsRow 0 93 3 fv d.files.length ((d.files.zip fw).flatMap filC) ∧ (∀ i (h : i < fw.length) (h2 : i < d.files.length), w'.ownsRow 0 127 2 fw[i] d.files[i].waits.length (d.files[i].waits.flatMap wrC)) ∧ NmsOwn w' 0 nv d.now ∧ NmsOwn w' 0 sv d.sure ∧ w'.ownsRow 0 131 3 wv d.waits.length (d.waits.flatMap trC) :=
  ⟨Frm.ownsRow_mods h.files hm (fun y hy e => Frm.ownsRow_ne h.files h.blk (by decide) (by rw [hy, e])),
   fun i h1 h2 => Frm.ownsRow_mods (h.waits i h1 h2) hm (fun y hy e => Frm.ownsRow_ne (h.waits i h1 h2) h.blk (by decide) (by rw [hy, e])),
   h.now.mods hm (fun y hy e => Frm.ownsRow_ne h.now h.blk (by decide) (by rw [hy, e])),
   h.sure.mods hm (fun y hy e => Frm.ownsRow_ne h.sure h.blk (by decide) (by rw [hy, e])),
   Frm.ownsRow_mods h.turns hm (fun y hy e => Frm.ownsRow_ne h.turns h.blk (by decide) (by rw [hy, e]))⟩
theorem RefIn.cells (h : RefIn w M m fv nv sv wv fw d k) : w.cell? ⟨m, 0, none⟩ = some fv ∧ w.cell? ⟨m, 1, none⟩ = some nv ∧ w.cell? ⟨m, 2, none⟩ = some sv ∧ w.cell? ⟨m, 3, none⟩ = some wv ∧ w.cell? ⟨m, 4, none⟩ = some (.int .i64 d.cap) ∧ w.cell? ⟨m, 5, none⟩ = some (.bool d.down) ∧ w.cell? ⟨m, 6, none⟩ = some (.int .i64 d.calls) ∧ w.cell? ⟨m, 7, none⟩ = some (.int .i64 d.fail) ∧ w.cell? ⟨m, 8, none⟩ = some (.int .i64 d.crash) ∧ w.cell? ⟨m, 9, none⟩ = some (.int .i64 d.err) := by
  refine ⟨?_, ?_, ?_, ?_, ?_, ?_, ?_, ?_, ?_, ?_⟩ <;> (rw [h.blk.cell]; rfl)
/-- its counters alone are written -/
theorem RefIn.turn (h : RefIn w M m fv nv sv wv fw d k) (hm : Mods (· = m) w w') {down : Bool} {calls fail crash err : Int} (hB : Blk w' m 59 (rdA { d with down := down, calls := calls, fail := fail, crash := crash, err := err } fv nv sv wv)) {k' : Nat} (hf : RFit { d with down := down, calls := calls, fail := fail, crash := crash, err := err } k') : RefIn w' M m fv nv sv wv fw { d with down := down, calls := calls, fail := fail, crash := crash, err := err } k' := by
  obtain ⟨h1, h2, h3, h4, h5⟩ := h.rows hm
  exact { blk := hB, files := h1, len := h.len, waits := h2, now := h3, sure := h4, turns := h5, sm := h.sm, sf := h.sf, sn := h.sn, ss := h.ss, st := h.st, sw := h.sw, fit := hf }
end
end Rf
end Go.Proofs.YtchjncnolmiejaaGreat

/- The document's disk: begin. -/
namespace Go.Proofs.YtchjncnolmiejaaGreat
open Go.RowKit
namespace Rf
open Vd
theorem RFit.more {d : RDsk} {k k' : Nat} (h : RFit d k) (hk : k ≤ k') : RFit d k' :=
  { h with f := Nat.le_trans h.f hk, n := Nat.le_trans h.n hk, s := Nat.le_trans h.s hk, w := Nat.le_trans h.w hk, p := fun x hx => Nat.le_trans (h.p x hx) hk, c1 := by have := h.c1; omega }
theorem RefAt.more {w : World} {M : Nat → Prop} {m : Nat} {d : RDsk} {k k' : Nat} (h : RefAt w M m d k) (hk : k ≤ k') : RefAt w M m d k' := let ⟨_, _, _, _, _, h⟩ := h; ⟨_, _, _, _, _, { h with fit := h.fit.more hk }⟩
theorem tick_in {x : Int} (h : -1 ≤ x ∧ x ≤ 9223372036854775807) : -1 ≤ tickR x ∧ tickR x ≤ 9223372036854775807 := by
  unfold tickR
  split <;> omega
/-- a call that changes, as it was counted -/
def begun (d : RDsk) : RDsk := { d with calls := d.calls + 1, crash := tickR d.crash, fail := tickR d.fail }
theorem begun_fit {d : RDsk} {k : Nat} (h : RFit d k) : RFit (begun d) (k + 1) :=
  { h.more (Nat.le_succ k) with c0 := by have := h.c0; show 0 ≤ d.calls + 1; omega, c1 := by have := h.c1; show d.calls + 1 ≤ _; omega, t1 := tick_in h.t1, t2 := tick_in h.t2 }
set_option maxRecDepth 100000 in
set_option maxHeartbeats 2000000 in
theorem begin_r (w : World) {M : Nat → Prop} {m : Nat} {d : RDsk} {k : Nat} (h : RefAt w M m d k) (hk : k ≤ 1000000) : Calls Tryz.prog 100 #[.pointer (some ⟨m, 0, none⟩)] w fun e w' => e = .returned (.int .i64 (beginR d).2) ∧ RefAt w' M m (beginR d).1 (k + 1) ∧ Mods (· = m) w w' := by
  obtain ⟨fv, nv, sv, wv, fw, h⟩ := h
  have H := Lib.hid h
  obtain ⟨-, -, -, -, -, c5, c6, -, -, -⟩ := h.cells
  have z6 : w.frozen? ⟨m, 6, none⟩ = false := h.blk.frozen _
  have hc0 := h.fit.c0
  have hc1 := h.fit.c1
  have ht1 := h.fit.t1
  have ht2 := h.fit.t2
  have hw1 : IntKind.i64.wrap (d.calls + 1) = d.calls + 1 := by rw [IntKind.wrap_i64]; omega
  clear h
  cases hd : d.down with
  | true =>
    rw [hd] at c5
    have HX : Hid (beginR d = (d, 11)) := Lib.hid (by unfold beginR; rw [if_pos hd])
    go_enter Tryz.func100, Tryz.ntmps100
    go_wp2_with fail
    go_ret
    rw [HX.out]
    exact ⟨rfl, ⟨_, _, _, _, _, { H.out with fit := H.out.fit.more (by omega) }⟩, Mods.refl _ _⟩
  | false =>
    rw [hd] at c5
    have HX : Hid (beginR d = if d.crash = 0 then ({ begun d with down := true }, 11) else if d.fail = 0 then (begun d, d.err) else (begun d, 0)) := Lib.hid (by unfold beginR; rw [if_neg (by simp [hd])]; rfl)
    have HD := Lib.hid hd
    clear hd
    go_enter Tryz.func100, Tryz.ntmps100
    go_upto_region 4 with fail
    have HB1 := Lib.hid (show Blk (w.setCell ⟨m, 6, none⟩ (.int .i64 (d.calls + 1))) m 59 (rdA { d with calls := d.calls + 1 } fv nv sv wv) from H.out.blk.set_ 6 _)
    have HM1 := Lib.hid ((Mods.refl (· = m) w).setCell (p := ⟨m, 6, none⟩) (fun _ => rfl) (.int .i64 (d.calls + 1)))
    clear c5 c6 z6 hw1
    generalize w.setCell ⟨m, 6, none⟩ (.int .i64 (d.calls + 1)) = w1 at *
    have c7 : w1.cell? ⟨m, 7, none⟩ = some (.int .i64 d.fail) := by rw [HB1.out.cell]; rfl
    have c8 : w1.cell? ⟨m, 8, none⟩ = some (.int .i64 d.crash) := by rw [HB1.out.cell]; rfl
    refine wp_region_noPanic ?_
    refine wp_region_held_drew (S := fun w' => Keeps (w1) w') (by kernel_rfl) ((Keeps.refl _).drew) (fun _ => ?_)
    have hHeld : Keeps (w1) (w1).drew := (Keeps.refl _).drew
    refine wpAnyH_take (i := 0) (v := ?vv1) (by rfl) (by kernel_rfl) (by kernel_rfl) (by kernel_rfl) (by intro _ _ _ h; exact h) (Or.inl ⟨by kernel_rfl, ?hy1⟩) (by assumption) ?rest1
    case hy1 =>
      intro w' hSw
      have hSw : Keeps _ w' := hSw
      clear hSw
      go_simp
      try with_reducible rfl
    change wpAnyH _ _ _ _ _ _ _ (Act.put _ (some 17) _) _
    try simp only [Act.put, List.setIfInBounds_toArray, List.set_cons_zero, List.set_cons_succ]
    refine wpAnyH_take (i := 1) (v := ?vv2) (by rfl) (by kernel_rfl) (by kernel_rfl) (by kernel_rfl) (by intro _ _ _ h; exact h) (Or.inl ⟨by kernel_rfl, ?hy2⟩) (by assumption) ?rest2
    case hy2 =>
      intro w' hSw
      have hSw : Keeps _ w' := hSw
      clear hSw
      go_simp
      try with_reducible rfl
    change wpAnyH _ _ _ _ _ _ _ (Act.put _ (some 18) _) _
    try simp only [Act.put, List.setIfInBounds_toArray, List.set_cons_zero, List.set_cons_succ]
    refine wpAnyH_take (i := 2) (v := ?vv3) (by rfl) (by kernel_rfl) (by kernel_rfl) (by kernel_rfl) (by intro _ _ _ h; exact h) (Or.inl ⟨by kernel_rfl, ?hy3⟩) (by assumption) ?rest3
    case hy3 =>
      intro w' hSw
      have hSw : Keeps _ w' := hSw
      clear hSw
      go_simp
      try with_reducible rfl
    change wpAnyH _ _ _ _ _ _ _ (Act.put _ (some 19) _) _
    try simp only [Act.put, List.setIfInBounds_toArray, List.set_cons_zero, List.set_cons_succ]
    refine wpAnyH_take (i := 3) (v := ?vv4) (by rfl) (by kernel_rfl) (by kernel_rfl) (by kernel_rfl) (by intro _ _ _ h; exact h) (Or.inl ⟨by kernel_rfl, ?hy4⟩) (by assumption) ?rest4
    case hy4 =>
      intro w' hSw
      have hSw : Keeps _ w' := hSw
      have hx := keep1 hSw c8
      clear hSw
      go_simp
      try with_reducible rfl
    change wpAnyH _ _ _ _ _ _ _ (Act.put _ (some 20) _) _
    try simp only [Act.put, List.setIfInBounds_toArray, List.set_cons_zero, List.set_cons_succ]
    refine wpAnyH_take (i := 4) (v := ?vv5) (by rfl) (by kernel_rfl) (by kernel_rfl) (by kernel_rfl) (by intro _ _ _ h; exact h) (Or.inl ⟨by kernel_rfl, ?hy5⟩) (by assumption) ?rest5
    case hy5 =>
      intro w' hSw
      have hSw : Keeps _ w' := hSw
      clear hSw
      go_simp
      try with_reducible rfl
    change wpAnyH _ _ _ _ _ _ _ (Act.put _ (some 21) _) _
    try simp only [Act.put, List.setIfInBounds_toArray, List.set_cons_zero, List.set_cons_succ]
    refine wpAnyH_take (i := 5) (v := ?vv6) (by rfl) (by kernel_rfl) (by kernel_rfl) (by kernel_rfl) (by intro _ _ _ h; exact h) (Or.inl ⟨by kernel_rfl, ?hy6⟩) (by assumption) ?rest6
    case hy6 =>
      intro w' hSw
      have hSw : Keeps _ w' := hSw
      clear hSw
      go_simp
      try with_reducible rfl
    change wpAnyH _ _ _ _ _ _ _ (Act.put _ (some 22) _) _
    try simp only [Act.put, List.setIfInBounds_toArray, List.set_cons_zero, List.set_cons_succ]
    refine wpAnyH_take (i := 6) (v := ?vv7) (by rfl) (by kernel_rfl) (by kernel_rfl) (by kernel_rfl) (by intro _ _ _ h; exact h) (Or.inl ⟨by kernel_rfl, ?hy7⟩) (by assumption) ?rest7
    case hy7 =>
      intro w' hSw
      have hSw : Keeps _ w' := hSw
      clear hSw
      go_simp
      try with_reducible rfl
    change wpAnyH _ _ _ _ _ _ _ (Act.put _ (some 23) _) _
    try simp only [Act.put, List.setIfInBounds_toArray, List.set_cons_zero, List.set_cons_succ]
    refine wpAnyH_take (i := 7) (v := ?vv8) (by rfl) (by kernel_rfl) (by kernel_rfl) (by kernel_rfl) (by intro _ _ _ h; exact h) (Or.inl ⟨by kernel_rfl, ?hy8⟩) (by assumption) ?rest8
    case hy8 =>
      intro w' hSw
      have hSw : Keeps _ w' := hSw
      clear hSw
      go_simp
      try with_reducible rfl
    change wpAnyH _ _ _ _ _ _ _ (Act.put _ (some 24) _) _
    try simp only [Act.put, List.setIfInBounds_toArray, List.set_cons_zero, List.set_cons_succ]
    refine wpAnyH_take (i := 8) (v := ?vv9) (by rfl) (by kernel_rfl) (by kernel_rfl) (by kernel_rfl) (by intro _ _ _ h; exact h) (Or.inl ⟨by kernel_rfl, ?hy9⟩) (by assumption) ?rest9
    case hy9 =>
      intro w' hSw
      have hSw : Keeps _ w' := hSw
      have hx := keep1 hSw c7
      clear hSw
      go_simp
      try with_reducible rfl
    change wpAnyH _ _ _ _ _ _ _ (Act.put _ (some 25) _) _
    try simp only [Act.put, List.setIfInBounds_toArray, List.set_cons_zero, List.set_cons_succ]
    refine wpAnyH_take (i := 9) (v := ?vv10) (by rfl) (by kernel_rfl) (by kernel_rfl) (by kernel_rfl) (by intro _ _ _ h; exact h) (Or.inl ⟨by kernel_rfl, ?hy10⟩) (by assumption) ?rest10
    case hy10 =>
      intro w' hSw
      have hSw : Keeps _ w' := hSw
      clear hSw
      go_simp
      try with_reducible rfl
    change wpAnyH _ _ _ _ _ _ _ (Act.put _ (some 26) _) _
    try simp only [Act.put, List.setIfInBounds_toArray, List.set_cons_zero, List.set_cons_succ]
    refine wpAnyH_take (i := 10) (v := ?vv11) (by rfl) (by kernel_rfl) (by kernel_rfl) (by kernel_rfl) (by intro _ _ _ h; exact h) (Or.inl ⟨by kernel_rfl, ?hy11⟩) (by assumption) ?rest11
    case hy11 =>
      intro w' hSw
      have hSw : Keeps _ w' := hSw
      clear hSw
      go_simp
      try with_reducible rfl
    change wpAnyH _ _ _ _ _ _ _ (Act.put _ (some 3) _) _
    try simp only [Act.put, List.setIfInBounds_toArray, List.set_cons_zero, List.set_cons_succ]
    refine wpAnyH_take (i := 11) (v := ?vv12) (by rfl) (by kernel_rfl) (by kernel_rfl) (by kernel_rfl) (by intro _ _ _ h; exact h) (Or.inl ⟨by kernel_rfl, ?hy12⟩) (by assumption) ?rest12
    case hy12 =>
      intro w' hSw
      have hSw : Keeps _ w' := hSw
      clear hSw
      go_simp
      try with_reducible rfl
    change wpAnyH _ _ _ _ _ _ _ (Act.put _ (some 4) _) _
    try simp only [Act.put, List.setIfInBounds_toArray, List.set_cons_zero, List.set_cons_succ]
    refine wpAnyH_done (by kernel_rfl) ?_ _
    refine NoPanic.normal ?_
    have HK2 := Lib.hid (Keeps.refl w1).drew
    have HB2 := Lib.hid (HB1.out.keeps HK2.out)
    have HM2 := Lib.hid (HM1.out.then HK2.out)
    clear c7 c8
    generalize w1.drew = w2 at *
    have c8 : w2.cell? ⟨m, 8, none⟩ = some (.int .i64 d.crash) := by rw [HB2.out.cell]; rfl
    have z8 : w2.frozen? ⟨m, 8, none⟩ = false := HB2.out.frozen _
    have hwc : IntKind.i64.wrap (d.crash - 1) = d.crash - 1 := by rw [IntKind.wrap_i64]; omega
    have hwf : IntKind.i64.wrap (d.fail - 1) = d.fail - 1 := by rw [IntKind.wrap_i64]; omega
    go_upto_if 31 with fail
    go_cut [] (fun wx => Hid (Blk wx m 59 (rdA { d with calls := d.calls + 1, crash := tickR d.crash } fv nv sv wv) ∧ Mods (· = m) w wx))
    case first =>
      by_cases hc : 0 ≤ d.crash
      · have HT := Lib.hid (show tickR d.crash = d.crash - 1 from if_pos hc)
        go_wp2_with fail
        go_meet
        rw [HT.out]
        exact Lib.hid ⟨HB2.out.set_ 8 _, HM2.out.setCell (p := ⟨m, 8, none⟩) (fun _ => rfl) _⟩
      · have HT := Lib.hid (show tickR d.crash = d.crash from if_neg hc)
        go_wp2_with fail
        go_meet
        rw [HT.out]
        exact Lib.hid ⟨HB2.out, HM2.out⟩
    case rest =>
    obtain ⟨w3, rfl⟩ : ∃ z : World, z = wc := ⟨_, rfl⟩
    have HB3 := Lib.hid hcut.out.1
    have HM3 := Lib.hid hcut.out.2
    clear hcut c8 z8
    have c7 : w3.cell? ⟨m, 7, none⟩ = some (.int .i64 d.fail) := by rw [HB3.out.cell]; rfl
    have z7 : w3.frozen? ⟨m, 7, none⟩ = false := HB3.out.frozen _
    go_upto_if 44 with fail
    go_cut [] (fun wx => Hid (Blk wx m 59 (rdA (begun d) fv nv sv wv) ∧ Mods (· = m) w wx))
    case first =>
      by_cases hc : 0 ≤ d.fail
      · have HT := Lib.hid (show begun d = { d with calls := d.calls + 1, crash := tickR d.crash, fail := d.fail - 1 } from by unfold begun; rw [show tickR d.fail = d.fail - 1 from if_pos hc])
        go_wp2_with fail
        go_meet
        rw [HT.out]
        exact Lib.hid ⟨HB3.out.set_ 7 _, HM3.out.setCell (p := ⟨m, 7, none⟩) (fun _ => rfl) _⟩
      · have HT := Lib.hid (show begun d = { d with calls := d.calls + 1, crash := tickR d.crash } from by unfold begun; rw [show tickR d.fail = d.fail from if_neg hc])
        go_wp2_with fail
        go_meet
        rw [HT.out]
        exact Lib.hid ⟨HB3.out, HM3.out⟩
    case rest =>
    obtain ⟨w4, rfl⟩ : ∃ z : World, z = wc := ⟨_, rfl⟩
    have HB4 := Lib.hid hcut.out.1
    have HM4 := Lib.hid hcut.out.2
    clear hcut c7 z7
    have c5 : w4.cell? ⟨m, 5, none⟩ = some (.bool d.down) := by rw [HB4.out.cell]; rfl
    have z5 : w4.frozen? ⟨m, 5, none⟩ = false := HB4.out.frozen _
    have c9 : w4.cell? ⟨m, 9, none⟩ = some (.int .i64 d.err) := by rw [HB4.out.cell]; rfl
    have HF := Lib.hid (begun_fit H.out.fit)
    by_cases hc : d.crash = 0
    · have HX1 := Lib.hid (HX.out.trans (if_pos hc))
      have e1 : (d.crash == 0) = true := by simp [hc]
      clear hc
      go_wp2_with fail
      go_ret
      rw [HX1.out]
      have hM := HM4.out.setCell (p := ⟨m, 5, none⟩) (fun _ => rfl) (.bool true)
      refine ⟨rfl, ⟨_, _, _, _, _, H.out.turn (down := true) (calls := d.calls + 1) (fail := tickR d.fail) (crash := tickR d.crash) (err := d.err) hM (HB4.out.set_ 5 _) ?_⟩, hM⟩
      exact { HF.out with }
    · have HX1 := Lib.hid (HX.out.trans (if_neg hc))
      have e1 : (d.crash == 0) = false := by simp [hc]
      clear hc
      have HR := Lib.hid (show RefAt w4 M m (begun d) (k + 1) from ⟨_, _, _, _, _, H.out.turn (down := d.down) (calls := d.calls + 1) (fail := tickR d.fail) (crash := tickR d.crash) (err := d.err) HM4.out HB4.out HF.out⟩)
      by_cases hf : d.fail = 0
      · have HX2 := Lib.hid (HX1.out.trans (if_pos hf))
        have e2 : (d.fail == 0) = true := by simp [hf]
        clear hf
        go_wp2_with fail
        go_ret
        rw [HX2.out]
        exact ⟨rfl, HR.out, HM4.out⟩
      · have HX2 := Lib.hid (HX1.out.trans (if_neg hf))
        have e2 : (d.fail == 0) = false := by simp [hf]
        clear hf
        go_wp2_with fail
        go_ret
        rw [HX2.out]
        exact ⟨rfl, HR.out, HM4.out⟩
end Rf
end Go.Proofs.YtchjncnolmiejaaGreat

/- The document's disk: turn. -/
namespace Go.Proofs.YtchjncnolmiejaaGreat
open Go.RowKit
namespace Rf
open Vd
theorem trM : Mids Tryz.prog 131 3 := ⟨⟨_, Tryz.underlying131, rfl⟩, by kernel_rfl⟩
theorem trok : ElemOkS Tryz.prog 57 131 3 40 := elemOkS (z := .agg #[.string (bstr []), .string (bstr []), .int .i64 0]) Tryz.underlying57 (by kernel_rfl) rfl
theorem trC_flat (l : List RTurn) : ∀ u ∈ l.flatMap trC, u.oneCell' = true := fun u hu => by
  obtain ⟨p, -, hp⟩ := List.mem_flatMap.1 hu
  simp [trC, trA] at hp
  rcases hp with rfl | rfl | rfl <;> rfl
set_option maxRecDepth 100000 in
set_option maxHeartbeats 4000000 in
theorem turn_r (w : World) {M : Nat → Prop} {m : Nat} {d : RDsk} {k : Nat} (h : RefAt w M m d k) (hk : k ≤ 1000000) (t : RTurn) (hf : RFit (turnR d t) (k + 1)) : Calls Tryz.prog 101 #[.pointer (some ⟨m, 0, none⟩), .agg (trA t)] w fun e w' => e = .returned (.tuple #[]) ∧ RefAt w' (More M w w') m (turnR d t) (k + 1) ∧ Mods (· = m) w w' := by
  obtain ⟨fv, nv, sv, wv, fw, h⟩ := h
  have H := Lib.hid h
  have HF := Lib.hid hf
  have hwl : d.waits.length ≤ 1000000 := Nat.le_trans h.fit.w hk
  have hnl : d.now.length ≤ 100000000 := by have := h.fit.n; omega
  obtain ⟨pw, cw, rfl, -, -⟩ := Frm.ownsRow_form h.turns
  obtain ⟨pn, cn, rfl, -, -⟩ := Frm.ownsRow_form h.now
  clear h hf
  obtain ⟨n, hn⟩ : ∃ n, n = d.waits.length := ⟨_, rfl⟩
  have HN := Lib.hid hn
  have HTU := Lib.hid (show w.ownsRow 0 131 3 (.slice pw n cw) n (d.waits.flatMap trC) from by rw [hn]; exact H.out.turns)
  have HBL := Lib.hid (show Blk w m 59 (rdA d fv (.slice pn d.now.length cn) sv (.slice pw n cw)) from by rw [hn]; exact H.out.blk)
  rw [← hn] at hwl
  clear hn
  obtain ⟨fr, dst, fi⟩ := t
  go_enter Tryz.func101, Tryz.ntmps101
  go_upto_region 1 with fail
  generalize hW : World.alloc w _ = w1
  have HK1 := Lib.hid (show Keeps w w1 from by rw [← hW]; exact (Keeps.refl _).alloc _)
  have HQ1 := Lib.hid (show Blk w1 w.heap.size 131 #[.string (bstr fr), .string (bstr dst), .int .i64 fi] from by rw [← hW]; exact Blk.new _ _ _ rfl)
  clear hW
  obtain ⟨q, hq⟩ : ∃ q, q = w.heap.size := ⟨_, rfl⟩
  rw [← hq] at HQ1 ⊢
  have HQ := Lib.hid hq
  clear hq
  have HB1 := Lib.hid (HBL.out.keeps HK1.out)
  have c3 : w1.cell? ⟨m, 3, none⟩ = some (.slice pw n cw) := by rw [HB1.out.cell]; rfl
  go_upto_region 3 with (at_builtin; go_loud (refine wpList_apps (base := w1.heap.size) trok (by decide) rfl _ _ rfl (.slice none 0 0) (.slice pw n cw) 0 n [] (d.waits.flatMap trC) rfl rfl (World.ownsRow_nil _ _ _ 3) (rowS_of (Frm.ownsRow_keeps HTU.out HK1.out)) (trC_flat _) (by omega) (by decide) (Nat.le_refl _) ?_; intro v2 w2 ho2 hg2 hf2; obtain ⟨p2, c2, rfl, -, -⟩ := Frm.ownsRow_form ho2))
  have HO2 := Lib.hid (show w2.ownsRow w1.heap.size 131 3 (.slice p2 n c2) n (d.waits.flatMap trC) from by simpa using ho2)
  have HK2 := Lib.hid (show Keeps w1 w2 from (Keeps.refl w1).grown hg2 (fun k hk => by simp [Value.ownBlock] at hk))
  have HQ2 := Lib.hid (show Blk w2 q 131 #[.string (bstr fr), .string (bstr dst), .int .i64 fi] from HQ1.out.keeps HK2.out)
  have hs2 := HK2.out.size
  clear ho2 hg2 hf2 c3
  go_upto_region 4 with (first
    | refine wpList_ld rfl trM HQ2.out _ rfl rfl ?_
    | (at_builtin; go_loud (refine wpList_apps (base := w1.heap.size) trok (by decide) rfl _ _ rfl (.slice p2 n c2) (.slice (some ⟨w2.heap.size, 0, none⟩) 1 1) n 1 (d.waits.flatMap trC) (trC ⟨fr, dst, fi⟩) rfl rfl (Frm.ownsRow_keeps HO2.out ((Keeps.refl _).alloc _)) (Frm.rowS_lit rfl rfl rfl) (by simp [trC, trA, Value.oneCell']) (by omega) (by decide) (by rw [Frm.alloc_size]; omega) ?_; intro v3 w3 ho3 hg3 hf3; obtain ⟨p3, c3, rfl, -, -⟩ := Frm.ownsRow_form ho3; have HK3 := Lib.hid (show Keeps w1 w3 from (HK2.out.alloc _).grown hg3 (Frm.ownsRow_base HO2.out)); have HB3 := Lib.hid (HB1.out.keeps HK3.out); have hc3 : w3.cell? ⟨m, 3, none⟩ = some (.slice pw n cw) := by { rw [HB3.out.cell]; rfl }; have hz3 : w3.frozen? ⟨m, 3, none⟩ = false := HB3.out.frozen _; have HO3 := Lib.hid ho3; clear ho3 hg3 hf3)))
  have HM4 := Lib.hid ((Mods.of_keeps (S := (· = m)) (HK1.out.trans HK3.out)).setCell (p := ⟨m, 3, none⟩) (fun _ => rfl) (.slice p3 (n + 1) c3))
  have HM34 := Lib.hid ((Mods.refl (· = m) w3).setCell (p := ⟨m, 3, none⟩) (fun _ => rfl) (.slice p3 (n + 1) c3))
  have HB4 := Lib.hid (show Blk (w3.setCell ⟨m, 3, none⟩ (.slice p3 (n + 1) c3)) m 59 (rdA d fv (.slice pn d.now.length cn) sv (.slice p3 (n + 1) c3)) from HB3.out.set_ 3 _)
  have HO4 := Lib.hid (Frm.ownsRow_mods HO3.out HM34.out (fun y hy e => Frm.ownsRow_ne HO3.out HB3.out (by decide) (by rw [hy, e])))
  have HQM := Lib.hid (show q ≠ m from fun e => by have := HBL.out.lt; have := HQ.out; omega)
  have HQ4 := Lib.hid ((HQ1.out.keeps HK3.out).mods HM34.out (fun e => HQM.out e))
  clear hc3 hz3
  generalize w3.setCell ⟨m, 3, none⟩ (.slice p3 (n + 1) c3) = w4 at *
  have HNW := Lib.hid ((H.out.rows HM4.out).2.2.1)
  have HNM : Hid ((Value.slice pn d.now.length cn).ownBlock ≠ some m) := Lib.hid (fun e => Frm.ownsRow_ne H.out.now H.out.blk (by decide) e)
  have HXd := Lib.hid HB4.out.drew
  have HNd := Lib.hid (NmsOwn.mods HNW.out (Mods.of_keeps (S := fun _ => False) (Keeps.refl w4).drew) (fun _ _ h => h))
  refine wp_region_noPanic ?_
  refine wp_region_held_drew (S := fun w' => Mods (· = m) w4 w') (by kernel_rfl) ((Mods.refl (· = m) w4).drew) (fun _ => ?_)
  have hHeld : Mods (· = m) w4 (w4).drew := (Mods.refl (· = m) w4).drew
  generalize World.drew w4 = xs at *
  refine wpAnyH_take (i := 0) (v := ?vv1) (by rfl) (by kernel_rfl) (by kernel_rfl) (by kernel_rfl) (by intro _ _ _ h; exact h) (Or.inl ⟨by kernel_rfl, ?hy1⟩) (by assumption) ?rest1
  case hy1 =>
    intro w' hSw
    have hSw : Mods (· = m) w4 w' := hSw
    clear hSw
    go_simp
    try with_reducible rfl
  change wpAnyH _ _ _ _ _ _ _ (Act.put _ (some 18) _) _
  try simp only [Act.put, List.setIfInBounds_toArray, List.set_cons_zero, List.set_cons_succ]
  refine wpAnyH_take (i := 1) (v := ?vv2) (by rfl) (by kernel_rfl) (by kernel_rfl) (by kernel_rfl) (by intro _ _ _ h; exact h) (Or.inl ⟨by kernel_rfl, ?hy2⟩) (by assumption) ?rest2
  case hy2 =>
    intro w' hSw
    have hSw : Mods (· = m) w4 w' := hSw
    clear hSw
    go_simp
    try with_reducible rfl
  change wpAnyH _ _ _ _ _ _ _ (Act.put _ (some 19) _) _
  try simp only [Act.put, List.setIfInBounds_toArray, List.set_cons_zero, List.set_cons_succ]
  refine wpAnyH_take (i := 2) (v := ?vv3) (by rfl) (by kernel_rfl) (by kernel_rfl) (by kernel_rfl) (by intro _ _ _ h; exact h) (Or.inl ⟨by kernel_rfl, ?hy3⟩) (by assumption) ?rest3
  case hy3 =>
    intro w' hSw
    have hSw : Mods (· = m) w4 w' := hSw
    clear hSw
    go_simp
    try with_reducible rfl
  change wpAnyH _ _ _ _ _ _ _ (Act.put _ (some 20) _) _
  try simp only [Act.put, List.setIfInBounds_toArray, List.set_cons_zero, List.set_cons_succ]
  refine wpAnyH_take (i := 3) (v := ?vv4) (by rfl) (by kernel_rfl) (by kernel_rfl) (by kernel_rfl) (by intro _ _ _ h; exact h) (Or.inl ⟨by kernel_rfl, ?hy4⟩) (by assumption) ?rest4
  case hy4 =>
    intro w' hSw
    have hSw : Mods (· = m) w4 w' := hSw
    clear hSw
    go_simp
    try with_reducible rfl
  change wpAnyH _ _ _ _ _ _ _ (Act.put _ (some 21) _) _
  try simp only [Act.put, List.setIfInBounds_toArray, List.set_cons_zero, List.set_cons_succ]
  refine wpAnyH_take (i := 5) (v := ?vv5) (by rfl) (by kernel_rfl) (by kernel_rfl) (by kernel_rfl) (by intro _ _ _ h; exact h) (Or.inl ⟨by kernel_rfl, ?hy5⟩) (by assumption) ?rest5
  case hy5 =>
    intro w' hSw
    have hSw : Mods (· = m) w4 w' := hSw
    have hBq := HQ4.out.mods hSw (fun e => HQM.out e)
    have hx0 : World.cell? w' ⟨q, 0, none⟩ = some (.string (bstr fr)) := by rw [hBq.cell]; rfl
    have hx1 : World.cell? w' ⟨q, 1, none⟩ = some (.string (bstr dst)) := by rw [hBq.cell]; rfl
    have hx2 : World.cell? w' ⟨q, 2, none⟩ = some (.int .i64 fi) := by rw [hBq.cell]; rfl
    clear hSw
    go_simp
    try with_reducible rfl
  change wpAnyH _ _ _ _ _ _ _ (Act.put _ (some 23) _) _
  try simp only [Act.put, List.setIfInBounds_toArray, List.set_cons_zero, List.set_cons_succ]
  refine wpAnyH_ready (rs := [4]) (by kernel_rfl) (by simp) ?_
  refine AllReadyH.cons (o := _) rfl (fun K hK => ?_) ?_
  · have hx : World.cell? xs ⟨m, 1, none⟩ = some (Value.slice pn d.now.length cn) := by rw [HXd.out.cell]; rfl
    go_simp
    clear hx
    have hb := hHeld
    refine hK.out _ _ hb (fun _ => ?_)
    clear hK K hHeld
    have hHeld : Mods (· = m) w4 xs := hb
    clear hb
    try simp only [Act.put, List.setIfInBounds_toArray, List.set_cons_zero, List.set_cons_succ]
    refine wpAnyH_ready (rs := [6]) (by kernel_rfl) (by simp) ?_
    refine AllReadyH.cons (o := _) rfl (fun K hK => ?_) ?_
    · go_simp
      refine (do_r _ HNd.out H.out.fit.an ⟨fr, dst, fi⟩ hnl).mono ?_
      rintro e x6 ⟨v6, rfl, ho6, hv6, hk6⟩
      have HV6 := Lib.hid ho6
      have HP6 := Lib.hid hv6
      have HZ6 := Lib.hid hHeld.size
      have HXd := Lib.hid (HXd.out.keeps hk6)
      have hb := hHeld.trans (Mods.of_keeps (S := (· = m)) hk6) (fun y hy _ => hy)
      clear ho6 hv6 hk6
      obtain ⟨p6, c6, rfl, -, -⟩ := Frm.ownsRow_form HV6.out
      go_wp2_with fail
      refine hK.out _ _ hb (fun _ => ?_)
      clear hK K hHeld
      have hHeld : Mods (· = m) w4 x6 := hb
      clear hb
      try simp only [Act.put, List.setIfInBounds_toArray, List.set_cons_zero, List.set_cons_succ]
      refine wpAnyH_take (i := 7) (v := ?vv6) (by rfl) (by kernel_rfl) (by kernel_rfl) (by kernel_rfl) (by intro _ _ _ h; exact h) (Or.inl ⟨by kernel_rfl, ?hy6⟩) (by assumption) ?rest6
      case hy6 =>
        intro w' hSw
        have hSw : Mods (· = m) w4 w' := hSw
        clear hSw
        go_simp
        try with_reducible rfl
      change wpAnyH _ _ _ _ _ _ _ (Act.put _ (some 25) _) _
      try simp only [Act.put, List.setIfInBounds_toArray, List.set_cons_zero, List.set_cons_succ]
      refine wpAnyH_take (i := 8) (v := ?vv7) (by rfl) (by kernel_rfl) (by kernel_rfl) (by kernel_rfl) (by intro _ _ _ h; exact h) (Or.inl ⟨by kernel_rfl, ?hy7⟩) (by assumption) ?rest7
      case hy7 =>
        intro w' hSw
        have hSw : Mods (· = m) w4 w' := hSw
        clear hSw
        go_simp
        try with_reducible rfl
      change wpAnyH _ _ _ _ _ _ _ (Act.put _ (some 26) _) _
      try simp only [Act.put, List.setIfInBounds_toArray, List.set_cons_zero, List.set_cons_succ]
      refine wpAnyH_ready (rs := [9]) (by kernel_rfl) (by simp) ?_
      refine AllReadyH.cons (o := _) rfl (fun K hK => ?_) ?_
      · have hx : World.cell? x6 ⟨m, 1, none⟩ = some (Value.slice pn d.now.length cn) := by rw [HXd.out.cell]; rfl
        have hz : World.frozen? x6 ⟨m, 1, none⟩ = false := HXd.out.frozen 1
        go_simp
        have HX3 := Lib.hid (HXd.out.set_ 1 (.slice p6 (doR d.now ⟨fr, dst, fi⟩).length c6))
        have HVF := Lib.hid (NmsOwn.mods (T := (· = m)) HV6.out ((Mods.refl (· = m) _).setCell (p := ⟨m, 1, none⟩) (fun _ => rfl) (.slice p6 (doR d.now ⟨fr, dst, fi⟩).length c6)) (fun y hy e => Frm.ownsRow_ne HV6.out HXd.out (by decide) (by rw [hy, e])))
        have hb := hHeld.setCell (p := ⟨m, 1, none⟩) (fun _ => rfl) (.slice p6 (doR d.now ⟨fr, dst, fi⟩).length c6)
        clear hx hz HXd
        generalize World.setCell x6 ⟨m, 1, none⟩ (.slice p6 (doR d.now ⟨fr, dst, fi⟩).length c6) = xF at *
        refine hK.out _ _ hb (fun _ => ?_)
        clear hK K hHeld
        have hHeld : Mods (· = m) w4 xF := hb
        clear hb
        try simp only [Act.put, List.setIfInBounds_toArray, List.set_cons_zero, List.set_cons_succ]
        refine wpAnyH_done (by kernel_rfl) ?_ _
        refine NoPanic.normal ?_
        go_wp2_with fail
        go_end0
        have hMF := HM4.out.trans hHeld (fun y hy _ => hy)
        obtain ⟨r1, r2, r3, r4, r5⟩ := H.out.rows hMF
        have hTF := Frm.ownsRow_mods HO4.out hHeld (fun y hy e => Frm.ownsRow_ne HO4.out HB4.out (by decide) (by rw [hy, e]))
        have hs3 := (HK1.out.trans HK3.out).size
        have hs4 := HM4.out.size
        have hs6 := HZ6.out
        refine ⟨rfl, ⟨fv, .slice p6 (doR d.now ⟨fr, dst, fi⟩).length c6, sv, .slice p3 (n + 1) c3, fw, ?_⟩, hMF⟩
        exact
          { blk := HX3.out
            files := r1, len := H.out.len, waits := r2, now := HVF.out, sure := r4
            turns := by
              have h0 := ownsRow_low hTF (Nat.zero_le _)
              have e : (turnR d ⟨fr, dst, fi⟩).waits.length = n + 1 := by simp [turnR, HN.out]
              have e2 : (turnR d ⟨fr, dst, fi⟩).waits.flatMap trC = d.waits.flatMap trC ++ trC ⟨fr, dst, fi⟩ := by simp [turnR]
              rw [e, e2]
              exact h0
            sm := .inl H.out.sm
            sf := fun y hy => .inl (H.out.sf y hy)
            sn := fun y hy => by
              rcases HP6.out y hy with h | h
              · exact .inl (H.out.sn y h)
              · have hlt := (owns_ty HVF.out hy).lt
                exact .inr ⟨by omega, hlt⟩
            ss := fun y hy => .inl (H.out.ss y hy)
            st := fun y hy => by
              have hb := Frm.ownsRow_base hTF y hy
              have hlt := (owns_ty hTF hy).lt
              have := HK1.out.size
              exact .inr ⟨by omega, hlt⟩
            sw := fun v hv y hy => .inl (H.out.sw v hv y hy)
            fit := HF.out }
      exact AllReadyH.nil
    exact AllReadyH.nil
  exact AllReadyH.nil
end Rf
end Go.Proofs.YtchjncnolmiejaaGreat

/- The document's disk: Find, Unlink, SyncDir, Arm, Failing. -/
namespace Go.Proofs.YtchjncnolmiejaaGreat
open Go.RowKit
namespace Rf
open Vd
theorem doR_len (l : Nms) (t : RTurn) : (doR l t).length ≤ l.length + 1 := by
  unfold doR
  split
  · split
    · omega
    · split
      · have := without_le l t.frm; omega
      · have := without_le l t.frm
        have := put_len (withoutL l t.frm) t.dst ‹Nat›
        omega
  · split
    · omega
    · exact put_len _ _ _
theorem doR_asc {l : Nms} (h : AscN l) (t : RTurn) : AscN (doR l t) := by
  unfold doR
  split
  · split
    · exact h
    · split
      · exact asc_without h _
      · exact ascN_put (asc_without h _) _ _
  · split
    · exact h
    · exact ascN_put h _ _
theorem doR_in {l : Nms} (ha : AscN l) {n : Nat} (h : ∀ p ∈ l, p.2 < n) {t : RTurn} (ht : t.file < (n : Int)) : ∀ p ∈ doR l t, p.2 < n := by
  have hw : ∀ x, ∀ p ∈ withoutL l x, p.2 < n := fun x p hp => h p (List.mem_filter.1 hp).1
  unfold doR
  split
  · split
    · exact h
    · rename_i f hl
      have hf : f < n := h _ ((look_mem ha).1 hl)
      split
      · exact hw _
      · intro p hp
        rcases put_mem hp with hp | rfl
        · exact hw _ p hp
        · exact hf
  · split
    · exact h
    · intro p hp
      rcases put_mem hp with hp | rfl
      · exact h p hp
      · show t.file.toNat < n
        omega
theorem turn_fit {d : RDsk} {k : Nat} (h : RFit d k) {t : RTurn} (ht : t.file < (d.files.length : Int)) : RFit (turnR d t) (k + 1) :=
  { h.more (Nat.le_succ k) with
    n := by have := doR_len d.now t; have := h.n; show (doR d.now t).length ≤ _; omega
    w := by have := h.w; simp [turnR]; omega
    an := doR_asc h.an t
    is := doR_in h.an h.is ht }
section
variable {w : World} {M : Nat → Prop} {m : Nat} {d : RDsk} {k : Nat}
/-- what a call makes of the document's disk -/
def RDid (W : World) (M : Nat → Prop) (m : Nat) (r : RDsk × Int) (k : Nat) (e : Ending) (w' : World) : Prop := e = .returned (.int .i64 r.2) ∧ RefAt w' (More M W w') m r.1 k ∧ Mods (· = m) W w'
theorem rfind_r (h : RefAt w M m d k) (x : Str) : Calls Tryz.prog 42 #[.pointer (some ⟨m, 0, none⟩), .string (bstr x)] w fun e w' => e = .returned (.int .i64 (findR d.now x)) ∧ w = w' := by
  obtain ⟨fv, nv, sv, wv, fw, h⟩ := h
  have HC := Lib.hid (find_r w (NmsOwn.at_ h.now) x)
  obtain ⟨-, c1, -⟩ := h.cells
  obtain ⟨pn, cn, rfl, -, -⟩ := Frm.ownsRow_form h.now
  clear h
  go_enter Tryz.func42, Tryz.ntmps42
  go_wp2_with fail
  refine HC.out.mono ?_
  rintro e w2 ⟨rfl, rfl⟩
  go_wp2_with fail
  go_ret
  exact ⟨rfl, rfl⟩
theorem beginR_files (d : RDsk) : (beginR d).1.files = d.files ∧ (beginR d).1.now = d.now ∧ (beginR d).1.sure = d.sure ∧ (beginR d).1.waits = d.waits ∧ (beginR d).1.cap = d.cap := by
  unfold beginR
  split
  · exact ⟨rfl, rfl, rfl, rfl, rfl⟩
  · split
    · exact ⟨rfl, rfl, rfl, rfl, rfl⟩
    · split <;> exact ⟨rfl, rfl, rfl, rfl, rfl⟩
theorem Mods.more_of {w1 w2 : World} (h : Mods (· = m) w w1) (h2 : RefAt w2 (More M w1 w2) m d k) : RefAt w2 (More M w w2) m d k := h2.wide (fun y hy => hy.imp id (fun hh => ⟨Nat.le_trans h.size hh.1, hh.2⟩))
set_option maxRecDepth 100000 in
set_option maxHeartbeats 2000000 in
theorem runlink_r (h : RefAt w M m d k) (hk : k ≤ 100000) (x : Str) : Calls Tryz.prog 49 #[.pointer (some ⟨m, 0, none⟩), .string (bstr x)] w (RDid w M m (unlinkR d x) (k + 2)) := by
  have HB := Lib.hid (begin_r w h (by omega))
  have HX0 : Hid (unlinkR d x = if (beginR d).2 ≠ 0 then beginR d else if (Vd.look d.now x).isSome then (turnR (beginR d).1 ⟨x, [], -1⟩, 0) else ((beginR d).1, 7)) := Lib.hid rfl
  have HFI := Lib.hid (beginR_files d)
  clear h
  unfold RDid
  generalize beginR d = r at *
  obtain ⟨d1, er⟩ := r
  simp only at HB HX0 HFI
  go_enter Tryz.func49, Tryz.ntmps49
  go_wp2_with fail
  refine HB.out.mono ?_
  rintro e w1 ⟨rfl, h1, hm1⟩
  have H1 := Lib.hid h1
  have HM1 := Lib.hid hm1
  clear h1 hm1 HB
  by_cases he : er = 0
  · subst he
    have HX1 := Lib.hid (HX0.out.trans (if_neg (by simp)))
    have HF := Lib.hid (rfind_r H1.out x)
    have HFR : Hid (findR d1.now x = match Vd.look d1.now x with | none => -1 | some i => (i : Int)) := Lib.hid rfl
    cases hl : Vd.look d1.now x with
    | none =>
      have HX := Lib.hid (HX1.out.trans (if_neg (by rw [← HFI.out.2.1, hl]; simp)))
      have hfr : findR d1.now x = -1 := by rw [HFR.out, hl]
      rw [hfr] at HF
      clear hfr hl HFR
      go_wp2_with fail
      refine HF.out.mono ?_
      rintro e w2 ⟨rfl, rfl⟩
      go_wp2_with fail
      go_ret
      rw [HX.out]
      exact ⟨rfl, (H1.out.wide (fun y hy => .inl hy)).more (by omega), HM1.out⟩
    | some i =>
      have HX := Lib.hid (HX1.out.trans (if_pos (by rw [← HFI.out.2.1, hl]; rfl)))
      have hfr : findR d1.now x = (i : Int) := by rw [HFR.out, hl]
      rw [hfr] at HF
      have HT := Lib.hid (turn_r w1 H1.out (by omega) ⟨x, [], -1⟩ (by
        obtain ⟨_, _, _, _, _, hh⟩ := H1.out
        exact turn_fit hh.fit (by show (-1 : Int) < _; omega)))
      unfold trA at HT
      clear hfr hl HFR
      go_wp2_with fail
      refine HF.out.mono ?_
      rintro e w2 ⟨rfl, rfl⟩
      go_wp2_with fail
      refine HT.out.mono ?_
      rintro e w2 ⟨rfl, h2, hm2⟩
      have H2 := Lib.hid h2
      have HM2 := Lib.hid hm2
      clear h2 hm2 HT HF
      go_wp2_with fail
      go_ret
      rw [HX.out]
      exact ⟨rfl, Mods.more_of HM1.out H2.out, HM1.out.trans HM2.out (fun y hy _ => hy)⟩
  · have HX := Lib.hid (HX0.out.trans (if_pos he))
    have he' : (er != 0) = true := by simp [he]
    clear he
    go_wp2_with fail
    go_ret
    rw [HX.out]
    exact ⟨rfl, (H1.out.wide (fun y hy => .inl hy)).more (by omega), HM1.out⟩
set_option maxRecDepth 100000 in
set_option maxHeartbeats 2000000 in
theorem rsyncDir_r (h : RefAt w M m d k) (hk : k ≤ 100000) : Calls Tryz.prog 74 #[.pointer (some ⟨m, 0, none⟩)] w (RDid w M m (syncDirR d) (k + 1)) := by
  have HB := Lib.hid (begin_r w h (by omega))
  have HX0 : Hid (syncDirR d = if (beginR d).2 ≠ 0 then beginR d else ({ (beginR d).1 with sure := d.now, waits := [] }, 0)) := Lib.hid rfl
  have HFI := Lib.hid (beginR_files d)
  clear h
  unfold RDid
  generalize beginR d = r at *
  obtain ⟨d1, er⟩ := r
  simp only at HB HX0 HFI
  go_enter Tryz.func74, Tryz.ntmps74
  go_wp2_with fail
  refine HB.out.mono ?_
  rintro e w1 ⟨rfl, h1, hm1⟩
  have H1 := Lib.hid h1
  have HM1 := Lib.hid hm1
  clear h1 hm1 HB
  by_cases he : er = 0
  · subst he
    have HX := Lib.hid (HX0.out.trans (if_neg (by simp)))
    obtain ⟨fv, nv, sv, wv, fw, h1⟩ := H1.out
    have HI := Lib.hid h1
    obtain ⟨-, c1, c2, c3, -⟩ := h1.cells
    have z2 : w1.frozen? ⟨m, 2, none⟩ = false := h1.blk.frozen _
    have z3 : w1.frozen? ⟨m, 3, none⟩ = false := h1.blk.frozen _
    obtain ⟨pn, cn, rfl, -, -⟩ := Frm.ownsRow_form h1.now
    clear h1
    go_wp2_with fail
    go_ret
    have hM := ((Mods.refl (· = m) w1).setCell (p := ⟨m, 2, none⟩) (fun _ => rfl) (.slice pn d1.now.length cn)).setCell (p := ⟨m, 3, none⟩) (fun _ => rfl) (.slice none 0 0)
    obtain ⟨r1, r2, r3, r4, r5⟩ := HI.out.rows hM
    rw [HX.out]
    refine ⟨rfl, ⟨fv, .slice pn d1.now.length cn, .slice pn d1.now.length cn, .slice none 0 0, fw, ?_⟩, HM1.out.trans hM (fun y hy _ => hy)⟩
    rw [← HFI.out.2.1]
    exact
      { blk := (HI.out.blk.set_ 2 _).set_ 3 _
        files := r1, len := HI.out.len, waits := r2, now := r3, sure := r3, turns := World.ownsRow_nil _ _ _ 3
        sm := .inl HI.out.sm, sf := fun y hy => .inl (HI.out.sf y hy), sn := fun y hy => .inl (HI.out.sn y hy), ss := fun y hy => .inl (HI.out.sn y hy)
        st := fun y hy => by simp [Value.ownBlock] at hy
        sw := fun v hv y hy => .inl (HI.out.sw v hv y hy)
        fit := { HI.out.fit with s := HI.out.fit.n, w := Nat.zero_le _, au := HI.out.fit.an } }
  · have HX := Lib.hid (HX0.out.trans (if_pos he))
    have he' : (er != 0) = true := by simp [he]
    clear he
    go_wp2_with fail
    go_ret
    rw [HX.out]
    exact ⟨rfl, H1.out.wide (fun y hy => .inl hy), HM1.out⟩
def armR (n e : Int) : Int := if n < 0 ∨ e = 0 then -1 else n
theorem arm_r (n e : Int) : Calls Tryz.prog 19 #[.int .i64 n, .int .i64 e] w fun r w' => r = .returned (.int .i64 (armR n e)) ∧ w = w' := by
  by_cases h1 : n < 0
  · have HX : Hid (armR n e = -1) := Lib.hid (if_pos (.inl h1))
    go_enter Tryz.func19, Tryz.ntmps19
    go_wp2_with fail
    go_ret
    exact ⟨by rw [HX.out]; rfl, rfl⟩
  · by_cases h2 : e = 0
    · subst h2
      have HX : Hid (armR n 0 = -1) := Lib.hid (if_pos (.inr rfl))
      go_enter Tryz.func19, Tryz.ntmps19
      go_wp2_with fail
      go_ret
      exact ⟨by rw [HX.out]; rfl, rfl⟩
    · have HX : Hid (armR n e = n) := Lib.hid (if_neg (by omega))
      have e1 : (e == 0) = false := by simp [h2]
      clear h2
      go_enter Tryz.func19, Tryz.ntmps19
      go_wp2_with fail
      go_ret
      exact ⟨by rw [HX.out]; rfl, rfl⟩
def failingR (n e : Int) : Int := if e = 11 then -1 else armR n e
theorem failing_r (n e : Int) : Calls Tryz.prog 17 #[.int .i64 n, .int .i64 e] w fun r w' => r = .returned (.int .i64 (failingR n e)) ∧ w = w' := by
  have HA := Lib.hid (arm_r (w := w) n e)
  by_cases h : e = 11
  · have HX : Hid (failingR n e = -1) := Lib.hid (if_pos h)
    have e1 : (e == 11) = true := by simp [h]
    clear h
    go_enter Tryz.func17, Tryz.ntmps17
    go_wp2_with fail
    go_ret
    exact ⟨by rw [HX.out]; rfl, rfl⟩
  · have HX : Hid (failingR n e = armR n e) := Lib.hid (if_neg h)
    have e1 : (e == 11) = false := by simp [h]
    clear h
    generalize armR n e = r at *
    go_enter Tryz.func17, Tryz.ntmps17
    go_wp2_with fail
    refine HA.out.mono ?_
    rintro e2 w2 ⟨rfl, rfl⟩
    go_wp2_with fail
    go_ret
    exact ⟨by rw [HX.out]; rfl, rfl⟩
end
end Rf
end Go.Proofs.YtchjncnolmiejaaGreat

/- The document's disk: Name. -/
namespace Go.Proofs.YtchjncnolmiejaaGreat
open Go.RowKit
namespace Rf
open Vd
theorem letter_fin : ∀ n : Fin 256, letterB (UInt8.ofNat n.val) = (decide (97 ≤ n.val ∧ n.val ≤ 122) || decide (48 ≤ n.val ∧ n.val ≤ 57) || decide (n.val = 46) || decide (n.val = 45)) := by decide +kernel
theorem letter_nat (c : UInt8) : letterB c = (decide (97 ≤ c.toNat ∧ c.toNat ≤ 122) || decide (48 ≤ c.toNat ∧ c.toNat ≤ 57) || decide (c.toNat = 46) || decide (c.toNat = 45)) := by
  have := letter_fin ⟨c.toNat, c.toNat_lt⟩
  simpa using this
set_option maxRecDepth 100000 in
set_option maxHeartbeats 4000000 in
theorem name_r (w : World) (l : Str) (hn : l.length ≤ 9000000000000000000) : Calls Tryz.prog 37 #[.string (bstr l)] w fun e w' => e = .returned (.bool (namedB l)) ∧ w = w' := by
  have HSZ := Lib.hid (bstr_size l)
  have HGE := Lib.hid (fun (j : Nat) (h : j < (bstr l).size) => show (bstr l)[j] = l[j]'(by rw [bstr_size] at h; exact h) from rfl)
  obtain ⟨n, hnn⟩ : ∃ n, n = (bstr l).size := ⟨_, rfl⟩
  have hnl : n = l.length := by rw [hnn, HSZ.out]
  by_cases h0 : n < 1
  · have HX := Lib.hid (show namedB l = false from by
      have : l = [] := List.eq_nil_of_length_eq_zero (by omega)
      rw [this]; rfl)
    have h0' : ((bstr l).size : Int) < 1 := by rw [← hnn]; omega
    go_enter Tryz.func37, Tryz.ntmps37
    go_wp2_with fail
    go_ret
    exact ⟨by rw [HX.out]; rfl, rfl⟩
  · by_cases h32 : 32 < n
    · have HX := Lib.hid (show namedB l = false from by
        unfold namedB
        rw [decide_eq_false (show ¬ l.length ≤ 32 by omega), Bool.and_false])
      have h0' : ¬ ((bstr l).size : Int) < 1 := by rw [← hnn]; omega
      have h1' : (32 : Int) < ((bstr l).size : Int) := by rw [← hnn]; omega
      go_enter Tryz.func37, Tryz.ntmps37
      go_wp2_with fail
      go_ret
      exact ⟨by rw [HX.out]; rfl, rfl⟩
    · have h0' : ¬ ((bstr l).size : Int) < 1 := by rw [← hnn]; omega
      have h1' : ¬ (32 : Int) < ((bstr l).size : Int) := by rw [← hnn]; omega
      have HNL := Lib.hid (And.intro hnl hnn)
      clear hnl hnn
      go_enter Tryz.func37, Tryz.ntmps37
      go_wp2_with fail
      go_loopw [3] (fun i wr => ∃ j : Nat, i = .int .i64 (j : Int) ∧ j ≤ (bstr l).size ∧ Hid ((l.take j).all letterB = true) ∧ w = wr) (fun i _ => (bstr l).size - (RowKit.intOf i).toNat)
      case atStart => exact ⟨0, rfl, Nat.zero_le _, Lib.hid rfl, rfl⟩
      case round =>
        obtain ⟨j, rfl, hj, HA, rfl⟩ := hrel
        by_cases hlt : j < (bstr l).size
        · have hll : j < l.length := by rw [← HSZ.out]; exact hlt
          have HLN := Lib.hid (letter_nat l[j])
          have HNO := Lib.hid (named_not (j := j) hll)
          have HLT := Lib.hid (letters_take hll HA.out)
          have hge := HGE.out j hlt
          have hcl := l[j].toNat_lt
          have hlt' : (j : Int) < ((bstr l).size : Int) := by omega
          obtain ⟨cn, hcn⟩ : ∃ cn, cn = ((bstr l)[j]'hlt).toNat := ⟨_, rfl⟩
          have hcn2 : cn = l[j].toNat := by rw [hcn, hge]
          rw [← hcn2] at HLN hcl
          clear hcn2 hge
          have hlet : (97 ≤ cn ∧ cn ≤ 122) ∨ (48 ≤ cn ∧ cn ≤ 57) ∨ cn = 46 ∨ cn = 45 ∨ cn < 45 ∨ cn = 47 ∨ (58 ≤ cn ∧ cn < 97) ∨ 122 < cn := by omega
          go_upto_region 7 with fail
          rw [← hcn]
          clear hcn
          rcases hlet with hlet | hlet | hlet | hlet | hlet | hlet | hlet | hlet
          · have HT := Lib.hid (HLT.out (by rw [HLN.out]; simp; omega))
            clear HLT HLN HNO
            go_wp2_with fail
            go_roundw
            case rel => exact ⟨j + 1, by simp, by omega, HT, trivial⟩
            case measure =>
              simp only [RowKit.intOf]
              omega
          · have HT := Lib.hid (HLT.out (by rw [HLN.out]; simp; omega))
            clear HLT HLN HNO
            go_wp2_with fail
            go_roundw
            case rel => exact ⟨j + 1, by simp, by omega, HT, trivial⟩
            case measure =>
              simp only [RowKit.intOf]
              omega
          · have HT := Lib.hid (HLT.out (by rw [HLN.out]; simp; omega))
            clear HLT HLN HNO
            go_wp2_with fail
            go_roundw
            case rel => exact ⟨j + 1, by simp, by omega, HT, trivial⟩
            case measure =>
              simp only [RowKit.intOf]
              omega
          · have HT := Lib.hid (HLT.out (by rw [HLN.out]; simp; omega))
            clear HLT HLN HNO
            go_wp2_with fail
            go_roundw
            case rel => exact ⟨j + 1, by simp, by omega, HT, trivial⟩
            case measure =>
              simp only [RowKit.intOf]
              omega
          · have HT := Lib.hid (HNO.out (by rw [HLN.out]; simp; omega))
            clear HLT HLN HNO
            have q1 : decide ((97 : Int) ≤ (cn : Int)) = false := by simp; omega
            have q2 : decide ((cn : Int) ≤ 122) = true := by simp; omega
            have q3 : decide ((48 : Int) ≤ (cn : Int)) = false := by simp; omega
            have q4 : decide ((cn : Int) ≤ 57) = true := by simp; omega
            have q5 : ((cn : Int) != 46) = true := by simp; omega
            have q6 : ((cn : Int) != 45) = true := by simp; omega
            go_wp2_with fail
            go_ret
            exact ⟨by rw [HT.out]; rfl, rfl⟩
          · have HT := Lib.hid (HNO.out (by rw [HLN.out]; simp; omega))
            clear HLT HLN HNO
            have q1 : decide ((97 : Int) ≤ (cn : Int)) = false := by simp; omega
            have q2 : decide ((cn : Int) ≤ 122) = true := by simp; omega
            have q3 : decide ((48 : Int) ≤ (cn : Int)) = false := by simp; omega
            have q4 : decide ((cn : Int) ≤ 57) = true := by simp; omega
            have q5 : ((cn : Int) != 46) = true := by simp; omega
            have q6 : ((cn : Int) != 45) = true := by simp; omega
            go_wp2_with fail
            go_ret
            exact ⟨by rw [HT.out]; rfl, rfl⟩
          · have HT := Lib.hid (HNO.out (by rw [HLN.out]; simp; omega))
            clear HLT HLN HNO
            have q1 : decide ((97 : Int) ≤ (cn : Int)) = false := by simp; omega
            have q2 : decide ((cn : Int) ≤ 122) = true := by simp; omega
            have q3 : decide ((48 : Int) ≤ (cn : Int)) = true := by simp; omega
            have q4 : decide ((cn : Int) ≤ 57) = false := by simp; omega
            have q5 : ((cn : Int) != 46) = true := by simp; omega
            have q6 : ((cn : Int) != 45) = true := by simp; omega
            go_wp2_with fail
            go_ret
            exact ⟨by rw [HT.out]; rfl, rfl⟩
          · have HT := Lib.hid (HNO.out (by rw [HLN.out]; simp; omega))
            clear HLT HLN HNO
            have q1 : decide ((97 : Int) ≤ (cn : Int)) = true := by simp; omega
            have q2 : decide ((cn : Int) ≤ 122) = false := by simp; omega
            have q3 : decide ((48 : Int) ≤ (cn : Int)) = true := by simp; omega
            have q4 : decide ((cn : Int) ≤ 57) = false := by simp; omega
            have q5 : ((cn : Int) != 46) = true := by simp; omega
            have q6 : ((cn : Int) != 45) = true := by simp; omega
            go_wp2_with fail
            go_ret
            exact ⟨by rw [HT.out]; rfl, rfl⟩
        · have hjl : j = l.length := by rw [← HSZ.out]; omega
          have HX := Lib.hid (show namedB l = true from by
            have h1 := HA.out
            rw [hjl, List.take_length] at h1
            have h2 := HNL.out.1
            unfold namedB
            rw [h1, decide_eq_true (show l.length ≤ 32 by omega)]
            cases l with
            | nil => simp at h2; omega
            | cons a l => rfl)
          have hlt' : decide ((j : Int) < ((bstr l).size : Int)) = false := by simp; omega
          clear HA hjl
          go_wp2_with fail
          go_ret
          exact ⟨by rw [HX.out]; rfl, rfl⟩
end Rf
end Go.Proofs.YtchjncnolmiejaaGreat

/- The document's disk: Rename. -/
namespace Go.Proofs.YtchjncnolmiejaaGreat
open Go.RowKit
namespace Rf
open Vd
section
variable {w : World} {M : Nat → Prop} {m : Nat} {d : RDsk} {k : Nat}
set_option maxRecDepth 100000 in
set_option maxHeartbeats 2000000 in
theorem rrename_r (h : RefAt w M m d k) (hk : k ≤ 100000) (x y : Str) (hy : y.length ≤ 9000000000000000000) : Calls Tryz.prog 51 #[.pointer (some ⟨m, 0, none⟩), .string (bstr x), .string (bstr y)] w (RDid w M m (renameR d x y) (k + 2)) := by
  have HB := Lib.hid (begin_r w h (by omega))
  have HX0 : Hid (renameR d x y = if (beginR d).2 ≠ 0 then beginR d else if namedB y = false then ((beginR d).1, 3) else if (Vd.look d.now x).isSome then (turnR (beginR d).1 ⟨x, y, -1⟩, 0) else ((beginR d).1, 7)) := Lib.hid rfl
  have HFI := Lib.hid (beginR_files d)
  clear h
  unfold RDid
  generalize beginR d = r at *
  obtain ⟨d1, er⟩ := r
  simp only at HB HX0 HFI
  go_enter Tryz.func51, Tryz.ntmps51
  go_wp2_with fail
  refine HB.out.mono ?_
  rintro e w1 ⟨rfl, h1, hm1⟩
  have H1 := Lib.hid h1
  have HM1 := Lib.hid hm1
  clear h1 hm1 HB
  by_cases he : er = 0
  · subst he
    have HXN := Lib.hid (HX0.out.trans (if_neg (by simp)))
    have HNM := Lib.hid (name_r w1 y hy)
    cases hny : namedB y with
    | false =>
      have HX := Lib.hid (HXN.out.trans (if_pos hny))
      rw [hny] at HNM
      clear hny HX0
      go_wp2_with fail
      refine HNM.out.mono ?_
      rintro e w2 ⟨rfl, rfl⟩
      go_wp2_with fail
      go_ret
      rw [HX.out]
      exact ⟨rfl, (H1.out.wide (fun y hy => .inl hy)).more (by omega), HM1.out⟩
    | true =>
    have HX1 := Lib.hid (HXN.out.trans (if_neg (by simp [hny])))
    rw [hny] at HNM
    clear hny
    have HF := Lib.hid (rfind_r H1.out x)
    have HFR : Hid (findR d1.now x = match Vd.look d1.now x with | none => -1 | some i => (i : Int)) := Lib.hid rfl
    cases hl : Vd.look d1.now x with
    | none =>
      have HX := Lib.hid (HX1.out.trans (if_neg (by rw [← HFI.out.2.1, hl]; simp)))
      have hfr : findR d1.now x = -1 := by rw [HFR.out, hl]
      rw [hfr] at HF
      clear hfr hl HFR
      go_wp2_with fail
      refine HNM.out.mono ?_
      rintro e w2 ⟨rfl, rfl⟩
      go_wp2_with fail
      refine HF.out.mono ?_
      rintro e w2 ⟨rfl, rfl⟩
      go_wp2_with fail
      go_ret
      rw [HX.out]
      exact ⟨rfl, (H1.out.wide (fun y hy => .inl hy)).more (by omega), HM1.out⟩
    | some i =>
      have HX := Lib.hid (HX1.out.trans (if_pos (by rw [← HFI.out.2.1, hl]; rfl)))
      have hfr : findR d1.now x = (i : Int) := by rw [HFR.out, hl]
      rw [hfr] at HF
      have HT := Lib.hid (turn_r w1 H1.out (by omega) ⟨x, y, -1⟩ (by
        obtain ⟨_, _, _, _, _, hh⟩ := H1.out
        exact turn_fit hh.fit (by show (-1 : Int) < _; omega)))
      unfold trA at HT
      clear hfr hl HFR
      go_wp2_with fail
      refine HNM.out.mono ?_
      rintro e w2 ⟨rfl, rfl⟩
      go_wp2_with fail
      refine HF.out.mono ?_
      rintro e w2 ⟨rfl, rfl⟩
      go_wp2_with fail
      refine HT.out.mono ?_
      rintro e w2 ⟨rfl, h2, hm2⟩
      have H2 := Lib.hid h2
      have HM2 := Lib.hid hm2
      clear h2 hm2 HT HF
      go_wp2_with fail
      go_ret
      rw [HX.out]
      exact ⟨rfl, Mods.more_of HM1.out H2.out, HM1.out.trans HM2.out (fun y hy _ => hy)⟩
  · have HX := Lib.hid (HX0.out.trans (if_pos he))
    have he' : (er != 0) = true := by simp [he]
    clear he
    go_wp2_with fail
    go_ret
    rw [HX.out]
    exact ⟨rfl, (H1.out.wide (fun y hy => .inl hy)).more (by omega), HM1.out⟩
end
end Rf
end Go.Proofs.YtchjncnolmiejaaGreat
