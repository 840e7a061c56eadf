/- The law FrameParts, walked. -/
import Derived.Test.YtfmjlgkbohidjaaFramePartsPlain
import Derived.Test.YtfmjlgkbohidjaaFrameSame
import Derived.Test.YtfmjlgkbohidjaaFrameRefScan
import Derived.Test.YtfmjlgkbohidjaaOctetLaws
import Derived.Laws.MakeOwn
namespace Go.Proofs.Ytfmjlgkbohidjaa
open Go.RowKit
namespace Frm
open Oct

def cellsC (n : Nat) (c : Nat → Nat) : List Value := (List.range n).map fun j => .int .i64 ((c j : Nat) : Int)
theorem cellsC_len (n : Nat) (c : Nat → Nat) : (cellsC n c).length = n := by simp [cellsC]
theorem cellsC_at {n : Nat} (c : Nat → Nat) {j : Nat} (h : j < n) : (cellsC n c)[j]? = some (.int .i64 ((c j : Nat) : Int)) := by simp [cellsC, h]
theorem cellsC_set (n : Nat) (c : Nat → Nat) (t v : Nat) : (cellsC n c).set t (.int .i64 ((v : Nat) : Int)) = cellsC n (fun j => if j = t then v else c j) := by
  apply List.ext_getElem?
  intro j
  rw [List.getElem?_set]
  by_cases hj : j < n
  · rw [cellsC_len]
    by_cases h : t = j
    · subst h
      rw [if_pos rfl, if_pos hj, cellsC_at _ hj]
      simp
    · rw [if_neg h, cellsC_at _ hj, cellsC_at _ hj, if_neg (fun e => h e.symm)]
  · have e1 : ∀ c', (cellsC n c')[j]? = none := fun c' => List.getElem?_eq_none (by rw [cellsC_len]; omega)
    rw [e1 c, e1, cellsC_len]
    by_cases h : t = j
    · rw [if_pos h, if_neg (by omega)]
    · rw [if_neg h]

/-- the counters, all else as it was -/
structure InAt (wm w : World) (base G n : Nat) (c : Nat → Nat) : Prop where
  own : Own w base 3 (.slice (some ⟨G, 0, none⟩) n n) (cellsC n c)
  mods : Mods (· = G) wm w
section
variable {wm w w' : World} {base G n : Nat} {c : Nat → Nat}
theorem InAt.keeps (h : InAt wm w base G n c) (k : Keeps w w') : InAt wm w' base G n c := ⟨h.own.keeps k, h.mods.then k⟩
theorem InAt.cell (h : InAt wm w base G n c) {j : Nat} (hj : j < n) : w.cell? ⟨G, j, none⟩ = some (.int .i64 ((c j : Nat) : Int)) := h.own.cellAt j _ (cellsC_at c hj)
theorem InAt.frozen (h : InAt wm w base G n c) (j : Nat) : w.frozen? ⟨G, j, none⟩ = false := by
  have h1 := h.own
  have h2 : Own w base 3 (.slice (some ⟨G, 0, none⟩) (cellsC n c).length n) (cellsC n c) := by rw [cellsC_len]; exact h1
  exact h2.frozenAt j
theorem InAt.inc (h : InAt wm w base G n c) (t : Nat) : InAt wm (w.setCell ⟨G, t, none⟩ (.int .i64 (((c t + 1 : Nat) : Nat) : Int))) base G n (fun j => if j = t then c t + 1 else c j) := by
  have h1 := h.own
  have h2 : Own w base 3 (.slice (some ⟨G, 0, none⟩) (cellsC n c).length n) (cellsC n c) := by rw [cellsC_len]; exact h1
  have h3 := h2.stored t (.int .i64 (((c t + 1 : Nat) : Nat) : Int))
  rw [cellsC_set, cellsC_len] at h3
  exact ⟨h3, h.mods.setCell (fun _ => rfl) _⟩
theorem InAt.same (h : InAt wm w base G n c) {c' : Nat → Nat} (hc : ∀ j, j < n → c j = c' j) : InAt wm w base G n c' := by
  have : cellsC n c = cellsC n c' := by
    unfold cellsC
    refine List.map_congr_left fun j hj => ?_
    rw [hc j (List.mem_range.1 hj)]
  exact ⟨this ▸ h.own, h.mods⟩
end
theorem i3 : (Try.prog.info? 3).map (fun i => (i.zero, i.size, i.bytes)) = some (some (.int .i64 0), 1, 8) := by kernel_rfl
theorem make_ints (w : World) (n : Nat) (hn : n ≤ 1000) : ∃ wm, (Instr.makeSlice 77 (.int .i64 (n : Int)) (.int .i64 (n : Int))).run Try.prog w = .ok (.slice (some ⟨w.heap.size, 0, none⟩) n n) wm ∧ InAt wm wm w.heap.size w.heap.size n (fun _ => 0) ∧ Keeps w wm ∧ ∃ cs, Blk wm w.heap.size 3 cs := by
  obtain ⟨i, hi, hz, hs, hby⟩ := info_parts i3
  refine ⟨_, run_make (P := Try.prog) w 77 3 i (.int .i64 0) Try.underlying77 hi hz .i64 .i64 n n (by omega) (by omega) (by rw [hby]; omega) (by omega), ⟨?_, Mods.refl _ _⟩, (Keeps.refl _).alloc _, _, Blk.new _ _ _ rfl⟩
  have hl : (madeCells (Value.int .i64 0).cells ((n : Int).toNat * i.size)).toList = cellsC n (fun _ => 0) := by
    rw [hs, Nat.mul_one, Int.toNat_natCast]
    show (madeCells #[.int .i64 0] n).toList = _
    rw [toList_madeCells_one]
    unfold cellsC
    symm
    rw [List.eq_replicate_iff]
    refine ⟨by simp, fun b hb => ?_⟩
    obtain ⟨_, _, rfl⟩ := List.mem_map.1 hb
    rfl
  have := own_lit (w := w) (base := w.heap.size) (e := 3) rfl hl (Nat.le_refl _) (by rw [cellsC_len]; simp [maxLen]; omega)
  rw [cellsC_len] at this
  exact this

theorem cntF_take_le {fs : List Fr1} {i j : Nat} : cntF (fs.take i) j ≤ cntF fs j := by
  conv => rhs; rw [← List.take_append_drop i fs, cntF_app]
  omega
theorem cntG_take_le {gs : List Gap1} {i j : Nat} : cntG (gs.take i) j ≤ cntG gs j := by
  conv => rhs; rw [← List.take_append_drop i gs, cntG_app]
  omega
theorem ind_step (v q j : Nat) : ind v ((v + (q + 1) : Nat) : Int) j = if j = v + q then ind v ((v + q : Nat) : Int) j + 1 else ind v ((v + q : Nat) : Int) j := by
  unfold ind
  split <;> split <;> split <;> omega

set_option maxRecDepth 100000 in
set_option maxHeartbeats 8000000 in
theorem frameParts_walk (W : World) (v0 : Value) (l : List UInt8) (r0 : Row W v0 (l.map u8v)) : Calls Try.prog 11 #[v0] W fun e w' => e = .returned (.bool true) ∧ Keeps W w' := by
  obtain ⟨p, cap, rfl, hc1, hc2⟩ := r0.formB
  have HR := Lib.hid r0
  clear r0
  by_cases h3 : 1000 < l.length
  · go_enter Try.func11, Try.ntmps11
    go_wp2_with fail
    refine (awake_any _).mono ?_
    rintro e w1 ⟨rfl, hK1⟩
    go_wp2_with fail
    go_ret
    exact ⟨rfl, hK1⟩
  have C3 := Lib.hid (fun w (k : Keeps W w) => scan_any (.slice p l.length cap) l w (HR.out.keeps k) (by omega))
  have HAll := Lib.hid (fun j (h : j < l.length) => parts_all l h)
  have HFr := Lib.hid (fun f (h : f ∈ (scanR l).1) => scan_frames l _ _ _ f h)
  have HGp : Hid (gapsOk l.length 0 (scanR l).2) := Lib.hid (by have := scan_gaps l l.length 0 0 (Nat.le_refl _) (Nat.zero_le _); exact this)
  have hcn : (scanR l).1.length ≤ l.length ∧ (scanR l).2.length ≤ l.length + 1 := scanN_count _ _ _ _
  generalize scanR l = x at *
  obtain ⟨fs, gs⟩ := x
  simp only at hcn HAll HFr HGp
  go_enter Try.func11, Try.ntmps11
  go_wp2_with fail
  refine (awake_any _).mono ?_
  rintro e w7 ⟨rfl, hK7⟩
  have HK7 := Lib.hid hK7
  clear hK7
  go_wp2_with fail
  refine (C3.out _ HK7.out).mono ?_
  rintro e w8 ⟨va, la, ga, rfl, hfa, hma, hga, hK8⟩
  obtain ⟨pa, ca, rfl, -, -⟩ := ownsRow_form hfa.own
  obtain ⟨qa, da, rfl, -, -⟩ := ownsRow_form hga
  have hla : la.length = fs.length := by
    have h := congrArg List.length hma
    simpa using h
  obtain ⟨wm, hmk, hin, hKm, csG, hBG⟩ := make_ints w8 l.length (by omega)
  have HFA := Lib.hid (hfa.keeps hKm)
  have HMA := Lib.hid hma
  have HGA : Hid (GapsAt wm w7.heap.size (.slice qa gs.length da) gs) := Lib.hid (ownsRow_keeps hga hKm)
  have HK8 := Lib.hid (HK7.out.trans hK8)
  have HKm := Lib.hid (HK8.out.trans hKm)
  have HLA := Lib.hid hla
  have HIn := Lib.hid hin
  have HBG := Lib.hid hBG
  have hszG := HK8.out.size
  clear hfa hma hK8 hga hla hin hKm hBG C3 HK7
  generalize hG : w8.heap.size = G at *
  clear hG
  go_wp2_with fail
  go_loopw [6] (fun iv wr => ∃ i : Nat, iv = .int .i64 (i : Int) ∧ i ≤ la.length ∧ InAt wm wr G G l.length (cntF (fs.take i))) (fun iv _ => la.length - (intOf iv).toNat)
  case atStart => exact ⟨0, rfl, Nat.zero_le _, HIn.out.same (fun j hj => by simp [cntF])⟩
  case round =>
    obtain ⟨i, rfl, hi, hI⟩ := hrel
    have hKW : Keeps W wr := hI.mods.keeps HKm.out (fun x hx => by rw [hx]; exact hszG)
    have hFr : FramesAt wr w7.heap.size (.slice pa la.length ca) la := HFA.out.modsX HBG.out (by decide) (by decide) hI.mods
    have hib : i ≤ 1000 := by have := HLA.out; omega
    by_cases hlt : i < la.length
    · obtain ⟨gF, hpF, ⟨hk0, hk1, hk2, hk3⟩, hrp⟩ := hFr.one hlt
      subst hpF
      have hifs : fs[i]? = some la[i].1 := by rw [← HMA.out, List.getElem?_map, List.getElem?_eq_getElem hlt]; rfl
      obtain ⟨v, hv0, hvf⟩ := HFr.out la[i].1 (List.mem_of_getElem? hifs)
      obtain ⟨k, m, f1, f2, f3, f4, f5, f6, f7, f8, f9, f10⟩ := frame_wraps hv0
      rw [← hvf] at f2 f3 f4 f5 f7 f8 f9
      have HTk : Hid (∀ j, cntF (fs.take (i + 1)) j = cntF (fs.take i) j + ind v ((v + m : Nat) : Int) j) := Lib.hid (fun j => by
        rw [List.take_add_one, hifs, cntF_app]
        simp only [Option.toList_some, cntF, f3, f4, Nat.add_zero]
        rw [show ((v + m : Nat) : Int) = (v : Int) + m from by omega])
      rw [f3] at hk0
      rw [f4] at hk1
      rw [f2] at hk2
      have HPay := Lib.hid hrp
      have HI := Lib.hid hI
      have HKW := Lib.hid hKW
      have HWl := Lib.hid (And.intro f8 (And.intro f9 f7))
      have HBd : Hid (∀ j, j < l.length → cntF (fs.take i) j ≤ 1) := Lib.hid (fun j hj => by have h1 := HAll.out j hj; have h2 := cntF_take_le (fs := fs) (i := i) (j := j); omega)
      have hgG : ¬ gF = G := fun h => ownsRow_ne HFA.out.own HBG.out (by decide) (by rw [h]; rfl)
      have HC0 : Hid (∀ w', Mods (· = G) wm w' → w'.cell? ⟨gF, i * 4, none⟩ = some (.int .i64 (v : Int))) := Lib.hid (fun w' hM => by
        obtain ⟨gF2, hpF2, ⟨hz0, -⟩, -⟩ := (HFA.out.modsX HBG.out (by decide) (by decide) hM).one hlt
        simp only [Option.some.injEq, Addr.mk.injEq] at hpF2
        rw [hpF2.1, hz0, f3])
      clear f2 f3 f4 f7 f8 f9 hvf hifs hrp hI hFr hKW
      generalize la[i] = y at *
      obtain ⟨yf, yv⟩ := y
      simp only at hk3 HPay HWl f5
      generalize yf.pay = pl at *
      have C1 := Lib.hid (fun w' (kk : Keeps wr w') => wrap_any (k : Int) yv pl w' (HPay.out.keeps kk))
      have hBl := HWl.out.2.1
      rw [HWl.out.2.2] at C1
      have HB := HWl.out.1
      generalize wrapL (k : Int) pl = B at *
      have HBB := Lib.hid (And.intro HB hBl)
      clear HB hBl HWl
      go_upto_region 10 with fail
      refine wp_region_noPanic ?_
      refine wp_region_held_drew (S := fun w' => Keeps (wr) w') (by kernel_rfl) ((Keeps.refl _).drew) (fun _ => ?_)
      have hHeld : Keeps (wr) (wr).drew := (Keeps.refl _).drew
      refine wpAnyH_take (i := 0) (v := ?vv1) (by rfl) (by kernel_rfl) (by kernel_rfl) (by kernel_rfl) (by intro _ _ _ h; exact h) (Or.inl ⟨by kernel_rfl, ?hy1⟩) (by assumption) ?rest1
      case hy1 =>
        intro w' hSw
        have hSw : Keeps _ w' := hSw
        clear hSw
        go_simp
        try with_reducible rfl
      change wpAnyH _ _ _ _ _ _ _ (Act.put _ (some 34) _) _
      try simp only [Act.put, List.setIfInBounds_toArray, List.set_cons_zero, List.set_cons_succ]
      refine wpAnyH_take (i := 1) (v := ?vv2) (by rfl) (by kernel_rfl) (by kernel_rfl) (by kernel_rfl) (by intro _ _ _ h; exact h) (Or.inl ⟨by kernel_rfl, ?hy2⟩) (by assumption) ?rest2
      case hy2 =>
        intro w' hSw
        have hSw : Keeps _ w' := hSw
        clear hSw
        go_simp
        try with_reducible rfl
      change wpAnyH _ _ _ _ _ _ _ (Act.put _ (some 35) _) _
      try simp only [Act.put, List.setIfInBounds_toArray, List.set_cons_zero, List.set_cons_succ]
      refine wpAnyH_take (i := 2) (v := ?vv3) (by rfl) (by kernel_rfl) (by kernel_rfl) (by kernel_rfl) (by intro _ _ _ h; exact h) (Or.inl ⟨by kernel_rfl, ?hy3⟩) (by assumption) ?rest3
      case hy3 =>
        intro w' hSw
        have hSw : Keeps _ w' := hSw
        clear hSw
        go_simp
        try with_reducible rfl
      change wpAnyH _ _ _ _ _ _ _ (Act.put _ (some 36) _) _
      try simp only [Act.put, List.setIfInBounds_toArray, List.set_cons_zero, List.set_cons_succ]
      refine wpAnyH_take (i := 3) (v := ?vv4) (by rfl) (by kernel_rfl) (by kernel_rfl) (by kernel_rfl) (by intro _ _ _ h; exact h) (Or.inl ⟨by kernel_rfl, ?hy4⟩) (by assumption) ?rest4
      case hy4 =>
        intro w' hSw
        have hSw : Keeps _ w' := hSw
        clear hSw
        go_simp
        try with_reducible rfl
      change wpAnyH _ _ _ _ _ _ _ (Act.put _ (some 37) _) _
      try simp only [Act.put, List.setIfInBounds_toArray, List.set_cons_zero, List.set_cons_succ]
      refine wpAnyH_take (i := 4) (v := ?vv5) (by rfl) (by kernel_rfl) (by kernel_rfl) (by kernel_rfl) (by intro _ _ _ h; exact h) (Or.inl ⟨by kernel_rfl, ?hy5⟩) (by assumption) ?rest5
      case hy5 =>
        intro w' hSw
        have hSw : Keeps _ w' := hSw
        have hx := keep1 hSw hk2
        clear hSw
        go_simp
        try with_reducible rfl
      change wpAnyH _ _ _ _ _ _ _ (Act.put _ (some 38) _) _
      try simp only [Act.put, List.setIfInBounds_toArray, List.set_cons_zero, List.set_cons_succ]
      refine wpAnyH_take (i := 5) (v := ?vv6) (by rfl) (by kernel_rfl) (by kernel_rfl) (by kernel_rfl) (by intro _ _ _ h; exact h) (Or.inl ⟨by kernel_rfl, ?hy6⟩) (by assumption) ?rest6
      case hy6 =>
        intro w' hSw
        have hSw : Keeps _ w' := hSw
        clear hSw
        go_simp
        try with_reducible rfl
      change wpAnyH _ _ _ _ _ _ _ (Act.put _ (some 39) _) _
      try simp only [Act.put, List.setIfInBounds_toArray, List.set_cons_zero, List.set_cons_succ]
      refine wpAnyH_take (i := 6) (v := ?vv7) (by rfl) (by kernel_rfl) (by kernel_rfl) (by kernel_rfl) (by intro _ _ _ h; exact h) (Or.inl ⟨by kernel_rfl, ?hy7⟩) (by assumption) ?rest7
      case hy7 =>
        intro w' hSw
        have hSw : Keeps _ w' := hSw
        clear hSw
        go_simp
        try with_reducible rfl
      change wpAnyH _ _ _ _ _ _ _ (Act.put _ (some 40) _) _
      try simp only [Act.put, List.setIfInBounds_toArray, List.set_cons_zero, List.set_cons_succ]
      refine wpAnyH_take (i := 7) (v := ?vv8) (by rfl) (by kernel_rfl) (by kernel_rfl) (by kernel_rfl) (by intro _ _ _ h; exact h) (Or.inl ⟨by kernel_rfl, ?hy8⟩) (by assumption) ?rest8
      case hy8 =>
        intro w' hSw
        have hSw : Keeps _ w' := hSw
        clear hSw
        go_simp
        try with_reducible rfl
      change wpAnyH _ _ _ _ _ _ _ (Act.put _ (some 41) _) _
      try simp only [Act.put, List.setIfInBounds_toArray, List.set_cons_zero, List.set_cons_succ]
      refine wpAnyH_take (i := 8) (v := ?vv9) (by rfl) (by kernel_rfl) (by kernel_rfl) (by kernel_rfl) (by intro _ _ _ h; exact h) (Or.inl ⟨by kernel_rfl, ?hy9⟩) (by assumption) ?rest9
      case hy9 =>
        intro w' hSw
        have hSw : Keeps _ w' := hSw
        clear hSw
        go_simp
        try with_reducible rfl
      change wpAnyH _ _ _ _ _ _ _ (Act.put _ (some 42) _) _
      try simp only [Act.put, List.setIfInBounds_toArray, List.set_cons_zero, List.set_cons_succ]
      refine wpAnyH_take (i := 9) (v := ?vv10) (by rfl) (by kernel_rfl) (by kernel_rfl) (by kernel_rfl) (by intro _ _ _ h; exact h) (Or.inl ⟨by kernel_rfl, ?hy10⟩) (by assumption) ?rest10
      case hy10 =>
        intro w' hSw
        have hSw : Keeps _ w' := hSw
        have hx := keep1 hSw hk3
        clear hSw
        go_simp
        try with_reducible rfl
      change wpAnyH _ _ _ _ _ _ _ (Act.put _ (some 43) _) _
      try simp only [Act.put, List.setIfInBounds_toArray, List.set_cons_zero, List.set_cons_succ]
      refine wpAnyH_ready (rs := [10]) (by kernel_rfl) (by simp) ?_
      refine AllReadyH.cons (o := _) rfl (fun K hK => ?_) AllReadyH.nil
      go_simp
      refine (C1.out _ hHeld).mono ?_
      rintro e w5 ⟨vb, rfl, hown5, hk⟩
      have hb : Keeps _ w5 := hHeld.trans hk
      obtain ⟨pb, cb, rfl, hpb1, hpb2⟩ := hown5.row.formB
      have HOw := Lib.hid hown5
      have HKb := Lib.hid hb
      clear hown5
      go_wp2_with fail
      refine hK.out _ _ hb (fun _ => ?_)
      clear hK K
      try simp only [Act.put, List.setIfInBounds_toArray, List.set_cons_zero, List.set_cons_succ]
      refine wpAnyH_more (S' := fun w' => Keeps w5 w') (fun _ h => hb.trans h) ?_
      clear hHeld hb hk
      have hHeld : Keeps w5 w5 := Keeps.refl _
      refine wpAnyH_take (i := 11) (v := ?vv11) (by rfl) (by kernel_rfl) (by kernel_rfl) (by kernel_rfl) (by intro _ _ _ h; exact h) (Or.inl ⟨by kernel_rfl, ?hy11⟩) (by assumption) ?rest11
      case hy11 =>
        intro w' hSw
        have hSw : Keeps _ w' := hSw
        clear hSw
        go_simp
        try with_reducible rfl
      change wpAnyH _ _ _ _ _ _ _ (Act.put _ (some 33) _) _
      try simp only [Act.put, List.setIfInBounds_toArray, List.set_cons_zero, List.set_cons_succ]
      refine wpAnyH_take (i := 12) (v := ?vv12) (by rfl) (by kernel_rfl) (by kernel_rfl) (by kernel_rfl) (by intro _ _ _ h; exact h) (Or.inl ⟨by kernel_rfl, ?hy12⟩) (by assumption) ?rest12
      case hy12 =>
        intro w' hSw
        have hSw : Keeps _ w' := hSw
        clear hSw
        go_simp
        try with_reducible rfl
      change wpAnyH _ _ _ _ _ _ _ (Act.put _ (some 45) _) _
      try simp only [Act.put, List.setIfInBounds_toArray, List.set_cons_zero, List.set_cons_succ]
      refine wpAnyH_take (i := 13) (v := ?vv13) (by rfl) (by kernel_rfl) (by kernel_rfl) (by kernel_rfl) (by intro _ _ _ h; exact h) (Or.inl ⟨by kernel_rfl, ?hy13⟩) (by assumption) ?rest13
      case hy13 =>
        intro w' hSw
        have hSw : Keeps _ w' := hSw
        clear hSw
        go_simp
        try with_reducible rfl
      change wpAnyH _ _ _ _ _ _ _ (Act.put _ (some 46) _) _
      try simp only [Act.put, List.setIfInBounds_toArray, List.set_cons_zero, List.set_cons_succ]
      refine wpAnyH_take (i := 14) (v := ?vv14) (by rfl) (by kernel_rfl) (by kernel_rfl) (by kernel_rfl) (by intro _ _ _ h; exact h) (Or.inl ⟨by kernel_rfl, ?hy14⟩) (by assumption) ?rest14
      case hy14 =>
        intro w' hSw
        have hSw : Keeps _ w' := hSw
        clear hSw
        go_simp
        try with_reducible rfl
      change wpAnyH _ _ _ _ _ _ _ (Act.put _ (some 7) _) _
      try simp only [Act.put, List.setIfInBounds_toArray, List.set_cons_zero, List.set_cons_succ]
      refine wpAnyH_take (i := 15) (v := ?vv15) (by rfl) (by kernel_rfl) (by kernel_rfl) (by kernel_rfl) (by intro _ _ _ h; exact h) (Or.inl ⟨by kernel_rfl, ?hy15⟩) (by assumption) ?rest15
      case hy15 =>
        intro w' hSw
        have hSw : Keeps _ w' := hSw
        clear hSw
        go_simp
        try with_reducible rfl
      change wpAnyH _ _ _ _ _ _ _ (Act.put _ (some 8) _) _
      try simp only [Act.put, List.setIfInBounds_toArray, List.set_cons_zero, List.set_cons_succ]
      refine wpAnyH_done (by kernel_rfl) ?_ _
      refine NoPanic.normal ?_
      have hBl2 := HBB.out.2
      rw [hBl2] at HOw hpb1 ⊢
      clear hBl2
      have hI5 := HI.out.keeps HKb.out
      have hKW5 := HKW.out.trans HKb.out
      have HI5 := Lib.hid hI5
      have hk0' := keep1 HKb.out hk0
      have hk1' := keep1 HKb.out hk1
      have hlv : v + m ≤ l.length := f6
      have ec : ∀ w', (Instr.slice 22 (.slice p l.length cap) (some (.int .i64 (v : Int))) (some (.int .i64 ((v : Int) + (m : Int)))) none).run Try.prog w' = .ok (cutv p v (v + m) cap) w' := fun w' => by
        have := run_cut_lh (P := Try.prog) w' Try.underlying22 s5 p l.length cap (kl := .i64) (kh := .i64) v (v + m) (by omega) (by omega)
        rwa [show ((v + m : Nat) : Int) = (v : Int) + (m : Int) from by omega] at this
      have HCut : Hid (∀ w', Keeps W w' → Row w' (cutv p v (v + m) cap) (B.map u8v)) := Lib.hid (fun w' kk => by
        have h := (HR.out.keeps kk).cut (lo := v) (hi := v + m) (by omega) (by rw [List.length_map]; omega)
        rw [Nat.add_sub_cancel_left, ← List.map_drop, ← List.map_take, ← HBB.out.1] at h
        exact h)
      have hKW5' := Lib.hid hKW5
      have hwv : IntKind.i64.wrap ((v : Int) + (m : Int)) = (v : Int) + (m : Int) := IntWalk.i64_in _ (by omega)
      have hwlm : IntKind.i64.wrap ((l.length : Int) - (m : Int)) = (l.length : Int) - (m : Int) := IntWalk.i64_in _ (by omega)
      have hvd : decide ((v : Int) < 0) = false := by simp
      have hvm2 : decide ((l.length : Int) - (m : Int) < (v : Int)) = false := by simp; omega
      have hvm3 : ¬ ((l.length : Int) - (m : Int) < (v : Int)) := by omega
      clear hI5 hKW5 hk0 hk1 hk2 hk3 hHeld
      go_upto_region 11 with fail
      refine wp_region_noPanic ?_
      refine wp_region_held_drew (S := fun w' => Keeps (w5) w') (by kernel_rfl) ((Keeps.refl _).drew) (fun _ => ?_)
      have hHeld : Keeps (w5) (w5).drew := (Keeps.refl _).drew
      refine wpAnyH_take (i := 0) (v := ?vv16) (by rfl) (by kernel_rfl) (by kernel_rfl) (by kernel_rfl) (by intro _ _ _ h; exact h) (Or.inl ⟨by kernel_rfl, ?hy16⟩) (by assumption) ?rest16
      case hy16 =>
        intro w' hSw
        have hSw : Keeps _ w' := hSw
        clear hSw
        go_simp
        try with_reducible rfl
      change wpAnyH _ _ _ _ _ _ _ (Act.put _ (some 47) _) _
      try simp only [Act.put, List.setIfInBounds_toArray, List.set_cons_zero, List.set_cons_succ]
      refine wpAnyH_take (i := 1) (v := ?vv17) (by rfl) (by kernel_rfl) (by kernel_rfl) (by kernel_rfl) (by intro _ _ _ h; exact h) (Or.inl ⟨by kernel_rfl, ?hy17⟩) (by assumption) ?rest17
      case hy17 =>
        intro w' hSw
        have hSw : Keeps _ w' := hSw
        clear hSw
        go_simp
        try with_reducible rfl
      change wpAnyH _ _ _ _ _ _ _ (Act.put _ (some 48) _) _
      try simp only [Act.put, List.setIfInBounds_toArray, List.set_cons_zero, List.set_cons_succ]
      refine wpAnyH_take (i := 2) (v := ?vv18) (by rfl) (by kernel_rfl) (by kernel_rfl) (by kernel_rfl) (by intro _ _ _ h; exact h) (Or.inl ⟨by kernel_rfl, ?hy18⟩) (by assumption) ?rest18
      case hy18 =>
        intro w' hSw
        have hSw : Keeps _ w' := hSw
        clear hSw
        go_simp
        try with_reducible rfl
      change wpAnyH _ _ _ _ _ _ _ (Act.put _ (some 49) _) _
      try simp only [Act.put, List.setIfInBounds_toArray, List.set_cons_zero, List.set_cons_succ]
      refine wpAnyH_take (i := 3) (v := ?vv19) (by rfl) (by kernel_rfl) (by kernel_rfl) (by kernel_rfl) (by intro _ _ _ h; exact h) (Or.inl ⟨by kernel_rfl, ?hy19⟩) (by assumption) ?rest19
      case hy19 =>
        intro w' hSw
        have hSw : Keeps _ w' := hSw
        clear hSw
        go_simp
        try with_reducible rfl
      change wpAnyH _ _ _ _ _ _ _ (Act.put _ (some 50) _) _
      try simp only [Act.put, List.setIfInBounds_toArray, List.set_cons_zero, List.set_cons_succ]
      refine wpAnyH_take (i := 4) (v := ?vv20) (by rfl) (by kernel_rfl) (by kernel_rfl) (by kernel_rfl) (by intro _ _ _ h; exact h) (Or.inl ⟨by kernel_rfl, ?hy20⟩) (by assumption) ?rest20
      case hy20 =>
        intro w' hSw
        have hSw : Keeps _ w' := hSw
        clear hSw
        go_simp
        try with_reducible rfl
      change wpAnyH _ _ _ _ _ _ _ (Act.put _ (some 51) _) _
      try simp only [Act.put, List.setIfInBounds_toArray, List.set_cons_zero, List.set_cons_succ]
      refine wpAnyH_take (i := 5) (v := ?vv21) (by rfl) (by kernel_rfl) (by kernel_rfl) (by kernel_rfl) (by intro _ _ _ h; exact h) (Or.inl ⟨by kernel_rfl, ?hy21⟩) (by assumption) ?rest21
      case hy21 =>
        intro w' hSw
        have hSw : Keeps _ w' := hSw
        clear hSw
        go_simp
        try with_reducible rfl
      change wpAnyH _ _ _ _ _ _ _ (Act.put _ (some 52) _) _
      try simp only [Act.put, List.setIfInBounds_toArray, List.set_cons_zero, List.set_cons_succ]
      refine wpAnyH_take (i := 6) (v := ?vv22) (by rfl) (by kernel_rfl) (by kernel_rfl) (by kernel_rfl) (by intro _ _ _ h; exact h) (Or.inl ⟨by kernel_rfl, ?hy22⟩) (by assumption) ?rest22
      case hy22 =>
        intro w' hSw
        have hSw : Keeps _ w' := hSw
        clear hSw
        go_simp
        try with_reducible rfl
      change wpAnyH _ _ _ _ _ _ _ (Act.put _ (some 53) _) _
      try simp only [Act.put, List.setIfInBounds_toArray, List.set_cons_zero, List.set_cons_succ]
      refine wpAnyH_take (i := 7) (v := ?vv23) (by rfl) (by kernel_rfl) (by kernel_rfl) (by kernel_rfl) (by intro _ _ _ h; exact h) (Or.inl ⟨by kernel_rfl, ?hy23⟩) (by assumption) ?rest23
      case hy23 =>
        intro w' hSw
        have hSw : Keeps _ w' := hSw
        have hx := keep1 hSw hk1'
        clear hSw
        go_simp
        try with_reducible rfl
      change wpAnyH _ _ _ _ _ _ _ (Act.put _ (some 54) _) _
      try simp only [Act.put, List.setIfInBounds_toArray, List.set_cons_zero, List.set_cons_succ]
      refine wpAnyH_take (i := 8) (v := ?vv24) (by rfl) (by kernel_rfl) (by kernel_rfl) (by kernel_rfl) (by intro _ _ _ h; exact h) (Or.inl ⟨by kernel_rfl, ?hy24⟩) (by assumption) ?rest24
      case hy24 =>
        intro w' hSw
        have hSw : Keeps _ w' := hSw
        clear hSw
        go_simp
        try with_reducible rfl
      change wpAnyH _ _ _ _ _ _ _ (Act.put _ (some 55) _) _
      try simp only [Act.put, List.setIfInBounds_toArray, List.set_cons_zero, List.set_cons_succ]
      refine wpAnyH_take (i := 9) (v := ?vv25) (by rfl) (by kernel_rfl) (by kernel_rfl) (by kernel_rfl) (by intro _ _ _ h; exact h) (Or.inl ⟨by kernel_rfl, ?hy25⟩) (by assumption) ?rest25
      case hy25 =>
        intro w' hSw
        have hSw : Keeps _ w' := hSw
        clear hSw
        go_simp
        try with_reducible rfl
      change wpAnyH _ _ _ _ _ _ _ (Act.put _ (some 56) _) _
      try simp only [Act.put, List.setIfInBounds_toArray, List.set_cons_zero, List.set_cons_succ]
      refine wpAnyH_take (i := 10) (v := ?vv26) (by rfl) (by kernel_rfl) (by kernel_rfl) (by kernel_rfl) (by intro _ _ _ h; exact h) (Or.inl ⟨by kernel_rfl, ?hy26⟩) (by assumption) ?rest26
      case hy26 =>
        intro w' hSw
        have hSw : Keeps _ w' := hSw
        clear hSw
        go_simp
        try with_reducible rfl
      change wpAnyH _ _ _ _ _ _ _ (Act.put _ (some 57) _) _
      try simp only [Act.put, List.setIfInBounds_toArray, List.set_cons_zero, List.set_cons_succ]
      refine wpAnyH_take (i := 11) (v := ?vv27) (by rfl) (by kernel_rfl) (by kernel_rfl) (by kernel_rfl) (by intro _ _ _ h; exact h) (Or.inl ⟨by kernel_rfl, ?hy27⟩) (by assumption) ?rest27
      case hy27 =>
        intro w' hSw
        have hSw : Keeps _ w' := hSw
        clear hSw
        go_simp
        try with_reducible rfl
      change wpAnyH _ _ _ _ _ _ _ (Act.put _ (some 58) _) _
      try simp only [Act.put, List.setIfInBounds_toArray, List.set_cons_zero, List.set_cons_succ]
      refine wpAnyH_take (i := 12) (v := ?vv28) (by rfl) (by kernel_rfl) (by kernel_rfl) (by kernel_rfl) (by intro _ _ _ h; exact h) (Or.inl ⟨by kernel_rfl, ?hy28⟩) (by assumption) ?rest28
      case hy28 =>
        intro w' hSw
        have hSw : Keeps _ w' := hSw
        clear hSw
        go_simp
        try with_reducible rfl
      change wpAnyH _ _ _ _ _ _ _ (Act.put _ (some 59) _) _
      try simp only [Act.put, List.setIfInBounds_toArray, List.set_cons_zero, List.set_cons_succ]
      refine wpAnyH_take (i := 13) (v := ?vv29) (by rfl) (by kernel_rfl) (by kernel_rfl) (by kernel_rfl) (by intro _ _ _ h; exact h) (Or.inl ⟨by kernel_rfl, ?hy29⟩) (by assumption) ?rest29
      case hy29 =>
        intro w' hSw
        have hSw : Keeps _ w' := hSw
        clear hSw
        go_simp
        try with_reducible rfl
      change wpAnyH _ _ _ _ _ _ _ (Act.put _ (some 60) _) _
      try simp only [Act.put, List.setIfInBounds_toArray, List.set_cons_zero, List.set_cons_succ]
      refine wpAnyH_take (i := 14) (v := ?vv30) (by rfl) (by kernel_rfl) (by kernel_rfl) (by kernel_rfl) (by intro _ _ _ h; exact h) (Or.inl ⟨by kernel_rfl, ?hy30⟩) (by assumption) ?rest30
      case hy30 =>
        intro w' hSw
        have hSw : Keeps _ w' := hSw
        clear hSw
        go_simp
        try with_reducible rfl
      change wpAnyH _ _ _ _ _ _ _ (Act.put _ (some 61) _) _
      try simp only [Act.put, List.setIfInBounds_toArray, List.set_cons_zero, List.set_cons_succ]
      refine wpAnyH_take (i := 15) (v := ?vv31) (by rfl) (by kernel_rfl) (by kernel_rfl) (by kernel_rfl) (by intro _ _ _ h; exact h) (Or.inl ⟨by kernel_rfl, ?hy31⟩) (by assumption) ?rest31
      case hy31 =>
        intro w' hSw
        have hSw : Keeps _ w' := hSw
        clear hSw
        go_simp
        try with_reducible rfl
      change wpAnyH _ _ _ _ _ _ _ (Act.put _ (some 62) _) _
      try simp only [Act.put, List.setIfInBounds_toArray, List.set_cons_zero, List.set_cons_succ]
      refine wpAnyH_take (i := 16) (v := ?vv32) (by rfl) (by kernel_rfl) (by kernel_rfl) (by kernel_rfl) (by intro _ _ _ h; exact h) (Or.inl ⟨by kernel_rfl, ?hy32⟩) (by assumption) ?rest32
      case hy32 =>
        intro w' hSw
        have hSw : Keeps _ w' := hSw
        clear hSw
        go_simp
        try with_reducible rfl
      change wpAnyH _ _ _ _ _ _ _ (Act.put _ (some 63) _) _
      try simp only [Act.put, List.setIfInBounds_toArray, List.set_cons_zero, List.set_cons_succ]
      refine wpAnyH_take (i := 17) (v := ?vv33) (by rfl) (by kernel_rfl) (by kernel_rfl) (by kernel_rfl) (by intro _ _ _ h; exact h) (Or.inl ⟨by kernel_rfl, ?hy33⟩) (by assumption) ?rest33
      case hy33 =>
        intro w' hSw
        have hSw : Keeps _ w' := hSw
        have hx := keep1 hSw hk0'
        clear hSw
        go_simp
        try with_reducible rfl
      change wpAnyH _ _ _ _ _ _ _ (Act.put _ (some 64) _) _
      try simp only [Act.put, List.setIfInBounds_toArray, List.set_cons_zero, List.set_cons_succ]
      refine wpAnyH_take (i := 18) (v := ?vv34) (by rfl) (by kernel_rfl) (by kernel_rfl) (by kernel_rfl) (by intro _ _ _ h; exact h) (Or.inl ⟨by kernel_rfl, ?hy34⟩) (by assumption) ?rest34
      case hy34 =>
        intro w' hSw
        have hSw : Keeps _ w' := hSw
        clear hSw
        go_simp
        try with_reducible rfl
      change wpAnyH _ _ _ _ _ _ _ (Act.put _ (some 65) _) _
      try simp only [Act.put, List.setIfInBounds_toArray, List.set_cons_zero, List.set_cons_succ]
      refine wpAnyH_take (i := 19) (v := ?vv35) (by rfl) (by kernel_rfl) (by kernel_rfl) (by kernel_rfl) (by intro _ _ _ h; exact h) (Or.inl ⟨by kernel_rfl, ?hy35⟩) (by assumption) ?rest35
      case hy35 =>
        intro w' hSw
        have hSw : Keeps _ w' := hSw
        clear hSw
        go_simp
        try with_reducible rfl
      change wpAnyH _ _ _ _ _ _ _ (Act.put _ (some 66) _) _
      try simp only [Act.put, List.setIfInBounds_toArray, List.set_cons_zero, List.set_cons_succ]
      refine wpAnyH_take (i := 20) (v := ?vv36) (by rfl) (by kernel_rfl) (by kernel_rfl) (by kernel_rfl) (by intro _ _ _ h; exact h) (Or.inl ⟨by kernel_rfl, ?hy36⟩) (by assumption) ?rest36
      case hy36 =>
        intro w' hSw
        have hSw : Keeps _ w' := hSw
        clear hSw
        go_simp
        try with_reducible rfl
      change wpAnyH _ _ _ _ _ _ _ (Act.put _ (some 67) _) _
      try simp only [Act.put, List.setIfInBounds_toArray, List.set_cons_zero, List.set_cons_succ]
      refine wpAnyH_take (i := 21) (v := ?vv37) (by rfl) (by kernel_rfl) (by kernel_rfl) (by kernel_rfl) (by intro _ _ _ h; exact h) (Or.inl ⟨by kernel_rfl, ?hy37⟩) (by assumption) ?rest37
      case hy37 =>
        intro w' hSw
        have hSw : Keeps _ w' := hSw
        clear hSw
        go_simp
        try with_reducible rfl
      change wpAnyH _ _ _ _ _ _ _ (Act.put _ (some 68) _) _
      try simp only [Act.put, List.setIfInBounds_toArray, List.set_cons_zero, List.set_cons_succ]
      refine wpAnyH_take (i := 22) (v := ?vv38) (by rfl) (by kernel_rfl) (by kernel_rfl) (by kernel_rfl) (by intro _ _ _ h; exact h) (Or.inl ⟨by kernel_rfl, ?hy38⟩) (by assumption) ?rest38
      case hy38 =>
        intro w' hSw
        have hSw : Keeps _ w' := hSw
        clear hSw
        go_simp
        try with_reducible rfl
      change wpAnyH _ _ _ _ _ _ _ (Act.put _ (some 69) _) _
      try simp only [Act.put, List.setIfInBounds_toArray, List.set_cons_zero, List.set_cons_succ]
      refine wpAnyH_take (i := 23) (v := ?vv39) (by rfl) (by kernel_rfl) (by kernel_rfl) (by kernel_rfl) (by intro _ _ _ h; exact h) (Or.inl ⟨by kernel_rfl, ?hy39⟩) (by assumption) ?rest39
      case hy39 =>
        intro w' hSw
        have hSw : Keeps _ w' := hSw
        clear hSw
        go_simp
        try with_reducible rfl
      change wpAnyH _ _ _ _ _ _ _ (Act.put _ (some 70) _) _
      try simp only [Act.put, List.setIfInBounds_toArray, List.set_cons_zero, List.set_cons_succ]
      refine wpAnyH_take (i := 24) (v := ?vv40) (by rfl) (by kernel_rfl) (by kernel_rfl) (by kernel_rfl) (by intro _ _ _ h; exact h) (Or.inl ⟨by kernel_rfl, ?hy40⟩) (by assumption) ?rest40
      case hy40 =>
        intro w' hSw
        have hSw : Keeps _ w' := hSw
        clear hSw
        go_simp
        try with_reducible rfl
      change wpAnyH _ _ _ _ _ _ _ (Act.put _ (some 71) _) _
      try simp only [Act.put, List.setIfInBounds_toArray, List.set_cons_zero, List.set_cons_succ]
      refine wpAnyH_take (i := 25) (v := ?vv41) (by rfl) (by kernel_rfl) (by kernel_rfl) (by kernel_rfl) (by intro _ _ _ h; exact h) (Or.inl ⟨by kernel_rfl, ?hy41⟩) (by assumption) ?rest41
      case hy41 =>
        intro w' hSw
        have hSw : Keeps _ w' := hSw
        have hx := keep1 hSw hk0'
        clear hSw
        go_simp
        try with_reducible rfl
      change wpAnyH _ _ _ _ _ _ _ (Act.put _ (some 72) _) _
      try simp only [Act.put, List.setIfInBounds_toArray, List.set_cons_zero, List.set_cons_succ]
      refine wpAnyH_take (i := 26) (v := ?vv42) (by rfl) (by kernel_rfl) (by kernel_rfl) (by kernel_rfl) (by intro _ _ _ h; exact h) (Or.inl ⟨by kernel_rfl, ?hy42⟩) (by assumption) ?rest42
      case hy42 =>
        intro w' hSw
        have hSw : Keeps _ w' := hSw
        clear hSw
        go_simp
        try with_reducible rfl
      change wpAnyH _ _ _ _ _ _ _ (Act.put _ (some 73) _) _
      try simp only [Act.put, List.setIfInBounds_toArray, List.set_cons_zero, List.set_cons_succ]
      refine wpAnyH_take (i := 27) (v := ?vv43) (by rfl) (by kernel_rfl) (by kernel_rfl) (by kernel_rfl) (by intro _ _ _ h; exact h) (Or.inl ⟨by kernel_rfl, ?hy43⟩) (by assumption) ?rest43
      case hy43 =>
        intro w' hSw
        have hSw : Keeps _ w' := hSw
        clear hSw
        go_simp
        try with_reducible rfl
      change wpAnyH _ _ _ _ _ _ _ (Act.put _ (some 74) _) _
      try simp only [Act.put, List.setIfInBounds_toArray, List.set_cons_zero, List.set_cons_succ]
      refine wpAnyH_take (i := 28) (v := ?vv44) (by rfl) (by kernel_rfl) (by kernel_rfl) (by kernel_rfl) (by intro _ _ _ h; exact h) (Or.inl ⟨by kernel_rfl, ?hy44⟩) (by assumption) ?rest44
      case hy44 =>
        intro w' hSw
        have hSw : Keeps _ w' := hSw
        clear hSw
        go_simp
        try with_reducible rfl
      change wpAnyH _ _ _ _ _ _ _ (Act.put _ (some 75) _) _
      try simp only [Act.put, List.setIfInBounds_toArray, List.set_cons_zero, List.set_cons_succ]
      refine wpAnyH_take (i := 29) (v := ?vv45) (by rfl) (by kernel_rfl) (by kernel_rfl) (by kernel_rfl) (by intro _ _ _ h; exact h) (Or.inl ⟨by kernel_rfl, ?hy45⟩) (by assumption) ?rest45
      case hy45 =>
        intro w' hSw
        have hSw : Keeps _ w' := hSw
        clear hSw
        go_simp
        try with_reducible rfl
      change wpAnyH _ _ _ _ _ _ _ (Act.put _ (some 76) _) _
      try simp only [Act.put, List.setIfInBounds_toArray, List.set_cons_zero, List.set_cons_succ]
      refine wpAnyH_take (i := 30) (v := ?vv46) (by rfl) (by kernel_rfl) (by kernel_rfl) (by kernel_rfl) (by intro _ _ _ h; exact h) (Or.inl ⟨by kernel_rfl, ?hy46⟩) (by assumption) ?rest46
      case hy46 =>
        intro w' hSw
        have hSw : Keeps _ w' := hSw
        clear hSw
        go_simp
        try with_reducible rfl
      change wpAnyH _ _ _ _ _ _ _ (Act.put _ (some 77) _) _
      try simp only [Act.put, List.setIfInBounds_toArray, List.set_cons_zero, List.set_cons_succ]
      refine wpAnyH_take (i := 31) (v := ?vv47) (by rfl) (by kernel_rfl) (by kernel_rfl) (by kernel_rfl) (by intro _ _ _ h; exact h) (Or.inl ⟨by kernel_rfl, ?hy47⟩) (by assumption) ?rest47
      case hy47 =>
        intro w' hSw
        have hSw : Keeps _ w' := hSw
        clear hSw
        go_simp
        try with_reducible rfl
      change wpAnyH _ _ _ _ _ _ _ (Act.put _ (some 78) _) _
      try simp only [Act.put, List.setIfInBounds_toArray, List.set_cons_zero, List.set_cons_succ]
      refine wpAnyH_take (i := 32) (v := ?vv48) (by rfl) (by kernel_rfl) (by kernel_rfl) (by kernel_rfl) (by intro _ _ _ h; exact h) (Or.inl ⟨by kernel_rfl, ?hy48⟩) (by assumption) ?rest48
      case hy48 =>
        intro w' hSw
        have hSw : Keeps _ w' := hSw
        clear hSw
        go_simp
        try with_reducible rfl
      change wpAnyH _ _ _ _ _ _ _ (Act.put _ (some 79) _) _
      try simp only [Act.put, List.setIfInBounds_toArray, List.set_cons_zero, List.set_cons_succ]
      refine wpAnyH_take (i := 33) (v := ?vv49) (by rfl) (by kernel_rfl) (by kernel_rfl) (by kernel_rfl) (by intro _ _ _ h; exact h) (Or.inl ⟨by kernel_rfl, ?hy49⟩) (by assumption) ?rest49
      case hy49 =>
        intro w' hSw
        have hSw : Keeps _ w' := hSw
        clear hSw
        go_simp
        try with_reducible rfl
      change wpAnyH _ _ _ _ _ _ _ (Act.put _ (some 80) _) _
      try simp only [Act.put, List.setIfInBounds_toArray, List.set_cons_zero, List.set_cons_succ]
      refine wpAnyH_take (i := 34) (v := ?vv50) (by rfl) (by kernel_rfl) (by kernel_rfl) (by kernel_rfl) (by intro _ _ _ h; exact h) (Or.inl ⟨by kernel_rfl, ?hy50⟩) (by assumption) ?rest50
      case hy50 =>
        intro w' hSw
        have hSw : Keeps _ w' := hSw
        clear hSw
        go_simp
        try with_reducible rfl
      change wpAnyH _ _ _ _ _ _ _ (Act.put _ (some 81) _) _
      try simp only [Act.put, List.setIfInBounds_toArray, List.set_cons_zero, List.set_cons_succ]
      refine wpAnyH_take (i := 35) (v := ?vv51) (by rfl) (by kernel_rfl) (by kernel_rfl) (by kernel_rfl) (by intro _ _ _ h; exact h) (Or.inl ⟨by kernel_rfl, ?hy51⟩) (by assumption) ?rest51
      case hy51 =>
        intro w' hSw
        have hSw : Keeps _ w' := hSw
        clear hSw
        go_simp
        try with_reducible rfl
      change wpAnyH _ _ _ _ _ _ _ (Act.put _ (some 82) _) _
      try simp only [Act.put, List.setIfInBounds_toArray, List.set_cons_zero, List.set_cons_succ]
      refine wpAnyH_take (i := 36) (v := ?vv52) (by rfl) (by kernel_rfl) (by kernel_rfl) (by kernel_rfl) (by intro _ _ _ h; exact h) (Or.inl ⟨by kernel_rfl, ?hy52⟩) (by assumption) ?rest52
      case hy52 =>
        intro w' hSw
        have hSw : Keeps _ w' := hSw
        clear hSw
        go_simp
        try with_reducible rfl
      change wpAnyH _ _ _ _ _ _ _ (Act.put _ (some 83) _) _
      try simp only [Act.put, List.setIfInBounds_toArray, List.set_cons_zero, List.set_cons_succ]
      refine wpAnyH_take (i := 37) (v := ?vv53) (by rfl) (by kernel_rfl) (by kernel_rfl) (by kernel_rfl) (by intro _ _ _ h; exact h) (Or.inl ⟨by kernel_rfl, ?hy53⟩) (by assumption) ?rest53
      case hy53 =>
        intro w' hSw
        have hSw : Keeps _ w' := hSw
        clear hSw
        go_simp
        try with_reducible rfl
      change wpAnyH _ _ _ _ _ _ _ (Act.put _ (some 84) _) _
      try simp only [Act.put, List.setIfInBounds_toArray, List.set_cons_zero, List.set_cons_succ]
      refine wpAnyH_take (i := 38) (v := ?vv54) (by rfl) (by kernel_rfl) (by kernel_rfl) (by kernel_rfl) (by intro _ _ _ h; exact h) (Or.inl ⟨by kernel_rfl, ?hy54⟩) (by assumption) ?rest54
      case hy54 =>
        intro w' hSw
        have hSw : Keeps _ w' := hSw
        clear hSw
        go_simp
        try with_reducible rfl
      change wpAnyH _ _ _ _ _ _ _ (Act.put _ (some 85) _) _
      try simp only [Act.put, List.setIfInBounds_toArray, List.set_cons_zero, List.set_cons_succ]
      refine wpAnyH_take (i := 39) (v := ?vv55) (by rfl) (by kernel_rfl) (by kernel_rfl) (by kernel_rfl) (by intro _ _ _ h; exact h) (Or.inl ⟨by kernel_rfl, ?hy55⟩) (by assumption) ?rest55
      case hy55 =>
        intro w' hSw
        have hSw : Keeps _ w' := hSw
        have hx := keep1 hSw hk0'
        clear hSw
        go_simp
        try with_reducible rfl
      change wpAnyH _ _ _ _ _ _ _ (Act.put _ (some 86) _) _
      try simp only [Act.put, List.setIfInBounds_toArray, List.set_cons_zero, List.set_cons_succ]
      refine wpAnyH_take (i := 40) (v := ?vv56) (by rfl) (by kernel_rfl) (by kernel_rfl) (by kernel_rfl) (by intro _ _ _ h; exact h) (Or.inl ⟨by kernel_rfl, ?hy56⟩) (by assumption) ?rest56
      case hy56 =>
        intro w' hSw
        have hSw : Keeps _ w' := hSw
        clear hSw
        go_simp
        try with_reducible rfl
      change wpAnyH _ _ _ _ _ _ _ (Act.put _ (some 87) _) _
      try simp only [Act.put, List.setIfInBounds_toArray, List.set_cons_zero, List.set_cons_succ]
      refine wpAnyH_take (i := 41) (v := ?vv57) (by rfl) (by kernel_rfl) (by kernel_rfl) (by kernel_rfl) (by intro _ _ _ h; exact h) (Or.inl ⟨by kernel_rfl, ?hy57⟩) (by assumption) ?rest57
      case hy57 =>
        intro w' hSw
        have hSw : Keeps _ w' := hSw
        clear hSw
        go_simp
        try with_reducible rfl
      change wpAnyH _ _ _ _ _ _ _ (Act.put _ (some 88) _) _
      try simp only [Act.put, List.setIfInBounds_toArray, List.set_cons_zero, List.set_cons_succ]
      refine wpAnyH_take (i := 42) (v := ?vv58) (by rfl) (by kernel_rfl) (by kernel_rfl) (by kernel_rfl) (by intro _ _ _ h; exact h) (Or.inl ⟨by kernel_rfl, ?hy58⟩) (by assumption) ?rest58
      case hy58 =>
        intro w' hSw
        have hSw : Keeps _ w' := hSw
        clear hSw
        go_simp
        try with_reducible rfl
      change wpAnyH _ _ _ _ _ _ _ (Act.put _ (some 89) _) _
      try simp only [Act.put, List.setIfInBounds_toArray, List.set_cons_zero, List.set_cons_succ]
      refine wpAnyH_take (i := 43) (v := ?vv59) (by rfl) (by kernel_rfl) (by kernel_rfl) (by kernel_rfl) (by intro _ _ _ h; exact h) (Or.inl ⟨by kernel_rfl, ?hy59⟩) (by assumption) ?rest59
      case hy59 =>
        intro w' hSw
        have hSw : Keeps _ w' := hSw
        clear hSw
        go_simp
        try with_reducible rfl
      change wpAnyH _ _ _ _ _ _ _ (Act.put _ (some 90) _) _
      try simp only [Act.put, List.setIfInBounds_toArray, List.set_cons_zero, List.set_cons_succ]
      refine wpAnyH_take (i := 44) (v := ?vv60) (by rfl) (by kernel_rfl) (by kernel_rfl) (by kernel_rfl) (by intro _ _ _ h; exact h) (Or.inl ⟨by kernel_rfl, ?hy60⟩) (by assumption) ?rest60
      case hy60 =>
        intro w' hSw
        have hSw : Keeps _ w' := hSw
        have hx := keep1 hSw hk0'
        clear hSw
        go_simp
        try with_reducible rfl
      change wpAnyH _ _ _ _ _ _ _ (Act.put _ (some 91) _) _
      try simp only [Act.put, List.setIfInBounds_toArray, List.set_cons_zero, List.set_cons_succ]
      refine wpAnyH_take (i := 45) (v := ?vv61) (by rfl) (by kernel_rfl) (by kernel_rfl) (by kernel_rfl) (by intro _ _ _ h; exact h) (Or.inl ⟨by kernel_rfl, ?hy61⟩) (by assumption) ?rest61
      case hy61 =>
        intro w' hSw
        have hSw : Keeps _ w' := hSw
        clear hSw
        go_simp
        try with_reducible rfl
      change wpAnyH _ _ _ _ _ _ _ (Act.put _ (some 92) _) _
      try simp only [Act.put, List.setIfInBounds_toArray, List.set_cons_zero, List.set_cons_succ]
      refine wpAnyH_take (i := 46) (v := ?vv62) (by rfl) (by kernel_rfl) (by kernel_rfl) (by kernel_rfl) (by intro _ _ _ h; exact h) (Or.inl ⟨by kernel_rfl, ?hy62⟩) (by assumption) ?rest62
      case hy62 =>
        intro w' hSw
        have hSw : Keeps _ w' := hSw
        clear hSw
        go_simp
        try with_reducible rfl
      change wpAnyH _ _ _ _ _ _ _ (Act.put _ (some 93) _) _
      try simp only [Act.put, List.setIfInBounds_toArray, List.set_cons_zero, List.set_cons_succ]
      refine wpAnyH_take (i := 47) (v := ?vv63) (by rfl) (by kernel_rfl) (by kernel_rfl) (by kernel_rfl) (by intro _ _ _ h; exact h) (Or.inl ⟨by kernel_rfl, ?hy63⟩) (by assumption) ?rest63
      case hy63 =>
        intro w' hSw
        have hSw : Keeps _ w' := hSw
        clear hSw
        go_simp
        try with_reducible rfl
      change wpAnyH _ _ _ _ _ _ _ (Act.put _ (some 94) _) _
      try simp only [Act.put, List.setIfInBounds_toArray, List.set_cons_zero, List.set_cons_succ]
      refine wpAnyH_take (i := 48) (v := ?vv64) (by rfl) (by kernel_rfl) (by kernel_rfl) (by kernel_rfl) (by intro _ _ _ h; exact h) (Or.inl ⟨by kernel_rfl, ?hy64⟩) (by assumption) ?rest64
      case hy64 =>
        intro w' hSw
        have hSw : Keeps _ w' := hSw
        clear hSw
        go_simp
        try with_reducible rfl
      change wpAnyH _ _ _ _ _ _ _ (Act.put _ (some 95) _) _
      try simp only [Act.put, List.setIfInBounds_toArray, List.set_cons_zero, List.set_cons_succ]
      refine wpAnyH_take (i := 49) (v := ?vv65) (by rfl) (by kernel_rfl) (by kernel_rfl) (by kernel_rfl) (by intro _ _ _ h; exact h) (Or.inl ⟨by kernel_rfl, ?hy65⟩) (by assumption) ?rest65
      case hy65 =>
        intro w' hSw
        have hSw : Keeps _ w' := hSw
        have hc := str_at' (HCut.out _ (hKW5'.out.trans hSw))
        clear hSw
        go_simp
        try with_reducible rfl
      change wpAnyH _ _ _ _ _ _ _ (Act.put _ (some 96) _) _
      try simp only [Act.put, List.setIfInBounds_toArray, List.set_cons_zero, List.set_cons_succ]
      refine wpAnyH_take (i := 50) (v := ?vv66) (by rfl) (by kernel_rfl) (by kernel_rfl) (by kernel_rfl) (by intro _ _ _ h; exact h) (Or.inl ⟨by kernel_rfl, ?hy66⟩) (by assumption) ?rest66
      case hy66 =>
        intro w' hSw
        have hSw : Keeps _ w' := hSw
        clear hSw
        go_simp
        try with_reducible rfl
      change wpAnyH _ _ _ _ _ _ _ (Act.put _ (some 97) _) _
      try simp only [Act.put, List.setIfInBounds_toArray, List.set_cons_zero, List.set_cons_succ]
      refine wpAnyH_take (i := 51) (v := ?vv67) (by rfl) (by kernel_rfl) (by kernel_rfl) (by kernel_rfl) (by intro _ _ _ h; exact h) (Or.inl ⟨by kernel_rfl, ?hy67⟩) (by assumption) ?rest67
      case hy67 =>
        intro w' hSw
        have hSw : Keeps _ w' := hSw
        have hc := str_at' (HOw.out.row.keeps hSw)
        clear hSw
        go_simp
        try with_reducible rfl
      change wpAnyH _ _ _ _ _ _ _ (Act.put _ (some 98) _) _
      try simp only [Act.put, List.setIfInBounds_toArray, List.set_cons_zero, List.set_cons_succ]
      refine wpAnyH_take (i := 52) (v := ?vv68) (by rfl) (by kernel_rfl) (by kernel_rfl) (by kernel_rfl) (by intro _ _ _ h; exact h) (Or.inl ⟨by kernel_rfl, ?hy68⟩) (by assumption) ?rest68
      case hy68 =>
        intro w' hSw
        have hSw : Keeps _ w' := hSw
        clear hSw
        go_simp
        try with_reducible rfl
      change wpAnyH _ _ _ _ _ _ _ (Act.put _ (some 99) _) _
      try simp only [Act.put, List.setIfInBounds_toArray, List.set_cons_zero, List.set_cons_succ]
      refine wpAnyH_take (i := 53) (v := ?vv69) (by rfl) (by kernel_rfl) (by kernel_rfl) (by kernel_rfl) (by intro _ _ _ h; exact h) (Or.inl ⟨by kernel_rfl, ?hy69⟩) (by assumption) ?rest69
      case hy69 =>
        intro w' hSw
        have hSw : Keeps _ w' := hSw
        clear hSw
        go_simp
        try with_reducible rfl
      change wpAnyH _ _ _ _ _ _ _ (Act.put _ (some 100) _) _
      try simp only [Act.put, List.setIfInBounds_toArray, List.set_cons_zero, List.set_cons_succ]
      refine wpAnyH_done (by kernel_rfl) ?_ _
      refine NoPanic.normal ?_
      have HI6 := Lib.hid (HI5.out.keeps hHeld)
      generalize hw6 : World.drew w5 = w6 at *
      clear hw6 hHeld ec hk0' hk1'
      clear hwlm hwv hvd hvm2 hvm3
      go_wp2_with fail
      go_loopw [9] (fun qv wr => ∃ q : Nat, qv = .int .i64 (q : Int) ∧ q ≤ m ∧ InAt wm wr G G l.length (fun j => cntF (fs.take i) j + ind v ((v + q : Nat) : Int) j)) (fun qv _ => m - (intOf qv).toNat)
      case atStart => exact ⟨0, rfl, Nat.zero_le _, HI6.out.same (fun j hj => by unfold ind; split <;> omega)⟩
      case round =>
        obtain ⟨q, rfl, hq, hIq⟩ := hrel
        by_cases hqm : q < m
        · have hjl : v + q < l.length := by omega
          have hcell := hIq.cell hjl
          have hfz := hIq.frozen (v + q)
          have hnb := HBd.out (v + q) hjl
          have hind : ind v ((v + q : Nat) : Int) (v + q) = 0 := by unfold ind; rw [if_neg (by omega)]
          have hc0 := HC0.out wr hIq.mods
          have hinc := hIq.inc (v + q)
          simp only [hind, Nat.add_zero] at hcell hinc
          have HInc : Hid (InAt wm (wr.setCell ⟨G, v + q, none⟩ (.int .i64 ((cntF (fs.take i) (v + q) : Int) + 1))) G G l.length (fun j => cntF (fs.take i) j + ind v ((v + (q + 1) : Nat) : Int) j)) := Lib.hid (by
            rw [show ((cntF (fs.take i) (v + q) : Int) + 1) = (((cntF (fs.take i) (v + q) + 1 : Nat)) : Int) from by omega]
            refine hinc.same (fun j hj => ?_)
            rw [ind_step]
            by_cases hj2 : j = v + q
            · rw [if_pos hj2, if_pos hj2, hj2, hind]
            · rw [if_neg hj2, if_neg hj2])
          clear hinc hind hIq
          generalize cntF (fs.take i) (v + q) = cc at *
          have hwi : IntKind.i64.wrap ((v : Int) + (q : Int)) = (v : Int) + (q : Int) := IntWalk.i64_in _ (by omega)
          have hix : ((v : Int) + (q : Int)).toNat = v + q := by omega
          have hixl : (v : Int) + (q : Int) < (l.length : Int) := by omega
          have hix0 : 0 ≤ (v : Int) + (q : Int) := by omega
          go_wp2_with fail
          go_roundw
          case rel => exact ⟨q + 1, by simp, by omega, HInc.out⟩
          case measure =>
            simp only [intOf]
            omega
        · have hqe : q = m := by omega
          have HIq : Hid (InAt wm wr G G l.length (cntF (fs.take (i + 1)))) := Lib.hid (hIq.same (fun j hj => by rw [HTk.out, hqe]))
          clear hIq
          go_wp2_with fail
          go_roundw
          case rel => exact ⟨i + 1, by simp, by omega, HIq.out⟩
          case measure =>
            simp only [intOf]
            omega
    · have hil : i = la.length := by omega
      have HI : Hid (InAt wm wr G G l.length (fun j => cntF fs j + cntG (gs.take 0) j)) := Lib.hid (hI.same (fun j hj => by
        rw [hil, List.take_of_length_le (by rw [HLA.out]; omega)]
        simp [cntG]))
      clear hil hI hFr hKW
      go_wp2_with fail
      go_loopw [10] (fun iv wr => ∃ i2 : Nat, iv = .int .i64 (i2 : Int) ∧ i2 ≤ gs.length ∧ InAt wm wr G G l.length (fun j => cntF fs j + cntG (gs.take i2) j)) (fun iv _ => gs.length - (intOf iv).toNat)
      case atStart => exact ⟨0, rfl, Nat.zero_le _, HI.out⟩
      case round =>
        obtain ⟨i2, rfl, hi2, hI⟩ := hrel
        have hGa : GapsAt wr w7.heap.size (.slice qa gs.length da) gs := ownsRow_mods HGA.out hI.mods (fun x hx hs => by subst hs; exact ownsRow_ty HGA.out (by decide) _ hx _ _ HBG.out)
        by_cases hlt2 : i2 < gs.length
        · obtain ⟨gg, cc, hv, -, -, -, hc⟩ := ownsRow_at hGa (by omega)
          simp only [Value.slice.injEq] at hv
          obtain ⟨rfl, -, rfl⟩ := hv
          obtain ⟨g1, g2, g3, g4⟩ := gapsOk_at HGp.out i2 gs[i2] (List.getElem?_eq_getElem hlt2)
          have hf0 : wr.cell? ⟨gg, i2 * 2, none⟩ = some (.int .i64 gs[i2].fro) := hc (i2 * 2 + 0) _ (by rw [gap_at hlt2 (by omega)]; rfl)
          have hf1 : wr.cell? ⟨gg, i2 * 2 + 1, none⟩ = some (.int .i64 gs[i2].to) := hc (i2 * 2 + 1) _ (by rw [gap_at hlt2 (by omega)]; rfl)
          have hprev : 0 < i2 → ∃ y : Int, wr.cell? ⟨gg, (i2 - 1) * 2 + 1, none⟩ = some (.int .i64 y) ∧ y < gs[i2].fro := fun h => by
            have h9 : i2 - 1 < gs.length := by omega
            exact ⟨_, hc ((i2 - 1) * 2 + 1) _ (by rw [gap_at h9 (by omega)]; rfl), g4 _ h (List.getElem?_eq_getElem h9)⟩
          have HTk2 : Hid (∀ j, cntG (gs.take (i2 + 1)) j = cntG (gs.take i2) j + ind gs[i2].fro gs[i2].to j) := Lib.hid (fun j => by
            rw [List.take_add_one, List.getElem?_eq_getElem hlt2, cntG_app]
            simp only [Option.toList_some, cntG, Nat.add_zero])
          clear hc g4 hGa
          generalize gs[i2] = x at *
          obtain ⟨xf, xt⟩ := x
          simp only at g1 g2 g3 hf0 hf1 hprev HTk2
          obtain ⟨a, rfl⟩ := Int.eq_ofNat_of_zero_le g1
          obtain ⟨b, rfl⟩ := Int.eq_ofNat_of_zero_le (show 0 ≤ xt by omega)
          have hGlt : G < wr.heap.size := by
            have h1 := HBG.out.lt
            have h2 := hI.mods.size
            omega
          go_upto_region 21 with fail
          generalize hWq : World.alloc wr _ = wq
          have hkq : Keeps wr wq := by rw [← hWq]; exact (Keeps.refl _).alloc _
          have hBq : Blk wq wr.heap.size 79 #[.int .i64 (a : Int), .int .i64 (b : Int)] := by rw [← hWq]; exact Blk.new _ _ _ rfl
          have hIq := hI.keeps hkq
          have hq0 : wq.cell? ⟨wr.heap.size, 0, none⟩ = some (.int .i64 (a : Int)) := by rw [hBq.cell]; rfl
          have hq1 : wq.cell? ⟨wr.heap.size, 1, none⟩ = some (.int .i64 (b : Int)) := by rw [hBq.cell]; rfl
          have hprev : 0 < i2 → ∃ y : Int, wq.cell? ⟨gg, (i2 - 1) * 2 + 1, none⟩ = some (.int .i64 y) ∧ y < (a : Int) := fun h => by
            obtain ⟨y, h1, h2⟩ := hprev h
            exact ⟨y, keep1 hkq h1, h2⟩
          have hQG : wr.heap.size ≠ G := by omega
          clear hWq hkq hf0 hf1 hI
          generalize wr.heap.size = Q at *
          have e1 : decide ((a : Int) < 0) = false := by simp
          have e2 : decide ((b : Int) ≤ (a : Int)) = false := by simp; omega
          have e3 : decide ((l.length : Int) < (b : Int)) = false := by simp; omega
          have e2' : decide (b ≤ a) = false := by simp; omega
          have e3' : decide (l.length < b) = false := by simp; omega
          have e6 : ¬ b ≤ a := by omega
          have e7 : ¬ l.length < b := by omega
          by_cases hi0 : i2 = 0
          · have e4 : decide ((0 : Int) < (i2 : Int)) = false := by simp; omega
            subst hi0
            clear hprev e4
            refine wp_region_noPanic ?_
            refine wp_region_held_drew (S := fun w' => Keeps (wq) w') (by kernel_rfl) ((Keeps.refl _).drew) (fun _ => ?_)
            have hHeld : Keeps (wq) (wq).drew := (Keeps.refl _).drew
            refine wpAnyH_take (i := 0) (v := ?vv70) (by rfl) (by kernel_rfl) (by kernel_rfl) (by kernel_rfl) (by intro _ _ _ h; exact h) (Or.inl ⟨by kernel_rfl, ?hy70⟩) (by assumption) ?rest70
            case hy70 =>
              intro w' hSw
              have hSw : Keeps _ w' := hSw
              clear hSw
              go_simp
              try with_reducible rfl
            change wpAnyH _ _ _ _ _ _ _ (Act.put _ (some 129) _) _
            try simp only [Act.put, List.setIfInBounds_toArray, List.set_cons_zero, List.set_cons_succ]
            refine wpAnyH_take (i := 1) (v := ?vv71) (by rfl) (by kernel_rfl) (by kernel_rfl) (by kernel_rfl) (by intro _ _ _ h; exact h) (Or.inl ⟨by kernel_rfl, ?hy71⟩) (by assumption) ?rest71
            case hy71 =>
              intro w' hSw
              have hSw : Keeps _ w' := hSw
              have hx := keep1 hSw hq0
              clear hSw
              go_simp
              try with_reducible rfl
            change wpAnyH _ _ _ _ _ _ _ (Act.put _ (some 130) _) _
            try simp only [Act.put, List.setIfInBounds_toArray, List.set_cons_zero, List.set_cons_succ]
            refine wpAnyH_take (i := 2) (v := ?vv72) (by rfl) (by kernel_rfl) (by kernel_rfl) (by kernel_rfl) (by intro _ _ _ h; exact h) (Or.inl ⟨by kernel_rfl, ?hy72⟩) (by assumption) ?rest72
            case hy72 =>
              intro w' hSw
              have hSw : Keeps _ w' := hSw
              clear hSw
              go_simp
              try with_reducible rfl
            change wpAnyH _ _ _ _ _ _ _ (Act.put _ (some 131) _) _
            try simp only [Act.put, List.setIfInBounds_toArray, List.set_cons_zero, List.set_cons_succ]
            refine wpAnyH_take (i := 3) (v := ?vv73) (by rfl) (by kernel_rfl) (by kernel_rfl) (by kernel_rfl) (by intro _ _ _ h; exact h) (Or.inl ⟨by kernel_rfl, ?hy73⟩) (by assumption) ?rest73
            case hy73 =>
              intro w' hSw
              have hSw : Keeps _ w' := hSw
              clear hSw
              go_simp
              try with_reducible rfl
            change wpAnyH _ _ _ _ _ _ _ (Act.put _ (some 132) _) _
            try simp only [Act.put, List.setIfInBounds_toArray, List.set_cons_zero, List.set_cons_succ]
            refine wpAnyH_take (i := 4) (v := ?vv74) (by rfl) (by kernel_rfl) (by kernel_rfl) (by kernel_rfl) (by intro _ _ _ h; exact h) (Or.inl ⟨by kernel_rfl, ?hy74⟩) (by assumption) ?rest74
            case hy74 =>
              intro w' hSw
              have hSw : Keeps _ w' := hSw
              clear hSw
              go_simp
              try with_reducible rfl
            change wpAnyH _ _ _ _ _ _ _ (Act.put _ (some 133) _) _
            try simp only [Act.put, List.setIfInBounds_toArray, List.set_cons_zero, List.set_cons_succ]
            refine wpAnyH_take (i := 5) (v := ?vv75) (by rfl) (by kernel_rfl) (by kernel_rfl) (by kernel_rfl) (by intro _ _ _ h; exact h) (Or.inl ⟨by kernel_rfl, ?hy75⟩) (by assumption) ?rest75
            case hy75 =>
              intro w' hSw
              have hSw : Keeps _ w' := hSw
              have hx := keep1 hSw hq0
              clear hSw
              go_simp
              try with_reducible rfl
            change wpAnyH _ _ _ _ _ _ _ (Act.put _ (some 134) _) _
            try simp only [Act.put, List.setIfInBounds_toArray, List.set_cons_zero, List.set_cons_succ]
            refine wpAnyH_take (i := 6) (v := ?vv76) (by rfl) (by kernel_rfl) (by kernel_rfl) (by kernel_rfl) (by intro _ _ _ h; exact h) (Or.inl ⟨by kernel_rfl, ?hy76⟩) (by assumption) ?rest76
            case hy76 =>
              intro w' hSw
              have hSw : Keeps _ w' := hSw
              clear hSw
              go_simp
              try with_reducible rfl
            change wpAnyH _ _ _ _ _ _ _ (Act.put _ (some 135) _) _
            try simp only [Act.put, List.setIfInBounds_toArray, List.set_cons_zero, List.set_cons_succ]
            refine wpAnyH_take (i := 7) (v := ?vv77) (by rfl) (by kernel_rfl) (by kernel_rfl) (by kernel_rfl) (by intro _ _ _ h; exact h) (Or.inl ⟨by kernel_rfl, ?hy77⟩) (by assumption) ?rest77
            case hy77 =>
              intro w' hSw
              have hSw : Keeps _ w' := hSw
              have hx := keep1 hSw hq1
              clear hSw
              go_simp
              try with_reducible rfl
            change wpAnyH _ _ _ _ _ _ _ (Act.put _ (some 136) _) _
            try simp only [Act.put, List.setIfInBounds_toArray, List.set_cons_zero, List.set_cons_succ]
            refine wpAnyH_take (i := 8) (v := ?vv78) (by rfl) (by kernel_rfl) (by kernel_rfl) (by kernel_rfl) (by intro _ _ _ h; exact h) (Or.inl ⟨by kernel_rfl, ?hy78⟩) (by assumption) ?rest78
            case hy78 =>
              intro w' hSw
              have hSw : Keeps _ w' := hSw
              clear hSw
              go_simp
              try with_reducible rfl
            change wpAnyH _ _ _ _ _ _ _ (Act.put _ (some 137) _) _
            try simp only [Act.put, List.setIfInBounds_toArray, List.set_cons_zero, List.set_cons_succ]
            refine wpAnyH_take (i := 9) (v := ?vv79) (by rfl) (by kernel_rfl) (by kernel_rfl) (by kernel_rfl) (by intro _ _ _ h; exact h) (Or.inl ⟨by kernel_rfl, ?hy79⟩) (by assumption) ?rest79
            case hy79 =>
              intro w' hSw
              have hSw : Keeps _ w' := hSw
              clear hSw
              go_simp
              try with_reducible rfl
            change wpAnyH _ _ _ _ _ _ _ (Act.put _ (some 138) _) _
            try simp only [Act.put, List.setIfInBounds_toArray, List.set_cons_zero, List.set_cons_succ]
            refine wpAnyH_take (i := 10) (v := ?vv80) (by rfl) (by kernel_rfl) (by kernel_rfl) (by kernel_rfl) (by intro _ _ _ h; exact h) (Or.inl ⟨by kernel_rfl, ?hy80⟩) (by assumption) ?rest80
            case hy80 =>
              intro w' hSw
              have hSw : Keeps _ w' := hSw
              clear hSw
              go_simp
              try with_reducible rfl
            change wpAnyH _ _ _ _ _ _ _ (Act.put _ (some 139) _) _
            try simp only [Act.put, List.setIfInBounds_toArray, List.set_cons_zero, List.set_cons_succ]
            refine wpAnyH_take (i := 11) (v := ?vv81) (by rfl) (by kernel_rfl) (by kernel_rfl) (by kernel_rfl) (by intro _ _ _ h; exact h) (Or.inl ⟨by kernel_rfl, ?hy81⟩) (by assumption) ?rest81
            case hy81 =>
              intro w' hSw
              have hSw : Keeps _ w' := hSw
              clear hSw
              go_simp
              try with_reducible rfl
            change wpAnyH _ _ _ _ _ _ _ (Act.put _ (some 140) _) _
            try simp only [Act.put, List.setIfInBounds_toArray, List.set_cons_zero, List.set_cons_succ]
            refine wpAnyH_take (i := 12) (v := ?vv82) (by rfl) (by kernel_rfl) (by kernel_rfl) (by kernel_rfl) (by intro _ _ _ h; exact h) (Or.inl ⟨by kernel_rfl, ?hy82⟩) (by assumption) ?rest82
            case hy82 =>
              intro w' hSw
              have hSw : Keeps _ w' := hSw
              have hx := keep1 hSw hq1
              clear hSw
              go_simp
              try with_reducible rfl
            change wpAnyH _ _ _ _ _ _ _ (Act.put _ (some 141) _) _
            try simp only [Act.put, List.setIfInBounds_toArray, List.set_cons_zero, List.set_cons_succ]
            refine wpAnyH_take (i := 13) (v := ?vv83) (by rfl) (by kernel_rfl) (by kernel_rfl) (by kernel_rfl) (by intro _ _ _ h; exact h) (Or.inl ⟨by kernel_rfl, ?hy83⟩) (by assumption) ?rest83
            case hy83 =>
              intro w' hSw
              have hSw : Keeps _ w' := hSw
              clear hSw
              go_simp
              try with_reducible rfl
            change wpAnyH _ _ _ _ _ _ _ (Act.put _ (some 142) _) _
            try simp only [Act.put, List.setIfInBounds_toArray, List.set_cons_zero, List.set_cons_succ]
            refine wpAnyH_take (i := 14) (v := ?vv84) (by rfl) (by kernel_rfl) (by kernel_rfl) (by kernel_rfl) (by intro _ _ _ h; exact h) (Or.inl ⟨by kernel_rfl, ?hy84⟩) (by assumption) ?rest84
            case hy84 =>
              intro w' hSw
              have hSw : Keeps _ w' := hSw
              clear hSw
              go_simp
              try with_reducible rfl
            change wpAnyH _ _ _ _ _ _ _ (Act.put _ (some 143) _) _
            try simp only [Act.put, List.setIfInBounds_toArray, List.set_cons_zero, List.set_cons_succ]
            refine wpAnyH_take (i := 15) (v := ?vv85) (by rfl) (by kernel_rfl) (by kernel_rfl) (by kernel_rfl) (by intro _ _ _ h; exact h) (Or.inl ⟨by kernel_rfl, ?hy85⟩) (by assumption) ?rest85
            case hy85 =>
              intro w' hSw
              have hSw : Keeps _ w' := hSw
              clear hSw
              go_simp
              try with_reducible rfl
            change wpAnyH _ _ _ _ _ _ _ (Act.put _ (some 144) _) _
            try simp only [Act.put, List.setIfInBounds_toArray, List.set_cons_zero, List.set_cons_succ]
            refine wpAnyH_take (i := 16) (v := ?vv86) (by rfl) (by kernel_rfl) (by kernel_rfl) (by kernel_rfl) (by intro _ _ _ h; exact h) (Or.inl ⟨by kernel_rfl, ?hy86⟩) (by assumption) ?rest86
            case hy86 =>
              intro w' hSw
              have hSw : Keeps _ w' := hSw
              clear hSw
              go_simp
              try with_reducible rfl
            change wpAnyH _ _ _ _ _ _ _ (Act.put _ (some 145) _) _
            try simp only [Act.put, List.setIfInBounds_toArray, List.set_cons_zero, List.set_cons_succ]
            refine wpAnyH_take (i := 17) (v := ?vv87) (by rfl) (by kernel_rfl) (by kernel_rfl) (by kernel_rfl) (by intro _ _ _ h; exact h) (Or.inl ⟨by kernel_rfl, ?hy87⟩) (by assumption) ?rest87
            case hy87 =>
              intro w' hSw
              have hSw : Keeps _ w' := hSw
              clear hSw
              go_simp
              try with_reducible rfl
            change wpAnyH _ _ _ _ _ _ _ (Act.put _ (some 146) _) _
            try simp only [Act.put, List.setIfInBounds_toArray, List.set_cons_zero, List.set_cons_succ]
            refine wpAnyH_take (i := 18) (v := ?vv88) (by rfl) (by kernel_rfl) (by kernel_rfl) (by kernel_rfl) (by intro _ _ _ h; exact h) (Or.inl ⟨by kernel_rfl, ?hy88⟩) (by assumption) ?rest88
            case hy88 =>
              intro w' hSw
              have hSw : Keeps _ w' := hSw
              clear hSw
              go_simp
              try with_reducible rfl
            change wpAnyH _ _ _ _ _ _ _ (Act.put _ (some 147) _) _
            try simp only [Act.put, List.setIfInBounds_toArray, List.set_cons_zero, List.set_cons_succ]
            refine wpAnyH_take (i := 19) (v := ?vv89) (by rfl) (by kernel_rfl) (by kernel_rfl) (by kernel_rfl) (by intro _ _ _ h; exact h) (Or.inl ⟨by kernel_rfl, ?hy89⟩) (by assumption) ?rest89
            case hy89 =>
              intro w' hSw
              have hSw : Keeps _ w' := hSw
              clear hSw
              go_simp
              try with_reducible rfl
            change wpAnyH _ _ _ _ _ _ _ (Act.put _ (some 148) _) _
            try simp only [Act.put, List.setIfInBounds_toArray, List.set_cons_zero, List.set_cons_succ]
            refine wpAnyH_take (i := 20) (v := ?vv90) (by rfl) (by kernel_rfl) (by kernel_rfl) (by kernel_rfl) (by intro _ _ _ h; exact h) (Or.inl ⟨by kernel_rfl, ?hy90⟩) (by assumption) ?rest90
            case hy90 =>
              intro w' hSw
              have hSw : Keeps _ w' := hSw
              clear hSw
              go_simp
              try with_reducible rfl
            change wpAnyH _ _ _ _ _ _ _ (Act.put _ (some 149) _) _
            try simp only [Act.put, List.setIfInBounds_toArray, List.set_cons_zero, List.set_cons_succ]
            refine wpAnyH_take (i := 21) (v := undef) (by rfl) (by kernel_rfl) (by kernel_rfl) (by kernel_rfl) (by intro _ _ _ h; exact h) (Or.inr ⟨by kernel_rfl, rfl⟩) (by assumption) ?rest91
            change wpAnyH _ _ _ _ _ _ _ (Act.put _ (some 150) _) _
            try simp only [Act.put, List.setIfInBounds_toArray, List.set_cons_zero, List.set_cons_succ]
            refine wpAnyH_take (i := 22) (v := undef) (by rfl) (by kernel_rfl) (by kernel_rfl) (by kernel_rfl) (by intro _ _ _ h; exact h) (Or.inr ⟨by kernel_rfl, rfl⟩) (by assumption) ?rest92
            change wpAnyH _ _ _ _ _ _ _ (Act.put _ (some 151) _) _
            try simp only [Act.put, List.setIfInBounds_toArray, List.set_cons_zero, List.set_cons_succ]
            refine wpAnyH_take (i := 23) (v := undef) (by rfl) (by kernel_rfl) (by kernel_rfl) (by kernel_rfl) (by intro _ _ _ h; exact h) (Or.inr ⟨by kernel_rfl, rfl⟩) (by assumption) ?rest93
            change wpAnyH _ _ _ _ _ _ _ (Act.put _ (some 152) _) _
            try simp only [Act.put, List.setIfInBounds_toArray, List.set_cons_zero, List.set_cons_succ]
            refine wpAnyH_take (i := 24) (v := undef) (by rfl) (by kernel_rfl) (by kernel_rfl) (by kernel_rfl) (by intro _ _ _ h; exact h) (Or.inr ⟨by kernel_rfl, rfl⟩) (by assumption) ?rest94
            change wpAnyH _ _ _ _ _ _ _ (Act.put _ (some 153) _) _
            try simp only [Act.put, List.setIfInBounds_toArray, List.set_cons_zero, List.set_cons_succ]
            refine wpAnyH_take (i := 25) (v := undef) (by rfl) (by kernel_rfl) (by kernel_rfl) (by kernel_rfl) (by intro _ _ _ h; exact h) (Or.inr ⟨by kernel_rfl, rfl⟩) (by assumption) ?rest95
            change wpAnyH _ _ _ _ _ _ _ (Act.put _ (some 154) _) _
            try simp only [Act.put, List.setIfInBounds_toArray, List.set_cons_zero, List.set_cons_succ]
            refine wpAnyH_take (i := 26) (v := undef) (by rfl) (by kernel_rfl) (by kernel_rfl) (by kernel_rfl) (by intro _ _ _ h; exact h) (Or.inr ⟨by kernel_rfl, rfl⟩) (by assumption) ?rest96
            change wpAnyH _ _ _ _ _ _ _ (Act.put _ (some 155) _) _
            try simp only [Act.put, List.setIfInBounds_toArray, List.set_cons_zero, List.set_cons_succ]
            refine wpAnyH_take (i := 27) (v := undef) (by rfl) (by kernel_rfl) (by kernel_rfl) (by kernel_rfl) (by intro _ _ _ h; exact h) (Or.inr ⟨by kernel_rfl, rfl⟩) (by assumption) ?rest97
            change wpAnyH _ _ _ _ _ _ _ (Act.put _ (some 156) _) _
            try simp only [Act.put, List.setIfInBounds_toArray, List.set_cons_zero, List.set_cons_succ]
            refine wpAnyH_take (i := 28) (v := undef) (by rfl) (by kernel_rfl) (by kernel_rfl) (by kernel_rfl) (by intro _ _ _ h; exact h) (Or.inr ⟨by kernel_rfl, rfl⟩) (by assumption) ?rest98
            change wpAnyH _ _ _ _ _ _ _ (Act.put _ (some 157) _) _
            try simp only [Act.put, List.setIfInBounds_toArray, List.set_cons_zero, List.set_cons_succ]
            refine wpAnyH_take (i := 29) (v := undef) (by rfl) (by kernel_rfl) (by kernel_rfl) (by kernel_rfl) (by intro _ _ _ h; exact h) (Or.inr ⟨by kernel_rfl, rfl⟩) (by assumption) ?rest99
            change wpAnyH _ _ _ _ _ _ _ (Act.put _ (some 158) _) _
            try simp only [Act.put, List.setIfInBounds_toArray, List.set_cons_zero, List.set_cons_succ]
            refine wpAnyH_take (i := 30) (v := ?vv100) (by rfl) (by kernel_rfl) (by kernel_rfl) (by kernel_rfl) (by intro _ _ _ h; exact h) (Or.inl ⟨by kernel_rfl, ?hy100⟩) (by assumption) ?rest100
            case hy100 =>
              intro w' hSw
              have hSw : Keeps _ w' := hSw
              clear hSw
              go_simp
              try with_reducible rfl
            change wpAnyH _ _ _ _ _ _ _ (Act.put _ (some 159) _) _
            try simp only [Act.put, List.setIfInBounds_toArray, List.set_cons_zero, List.set_cons_succ]
            refine wpAnyH_take (i := 31) (v := ?vv101) (by rfl) (by kernel_rfl) (by kernel_rfl) (by kernel_rfl) (by intro _ _ _ h; exact h) (Or.inl ⟨by kernel_rfl, ?hy101⟩) (by assumption) ?rest101
            case hy101 =>
              intro w' hSw
              have hSw : Keeps _ w' := hSw
              clear hSw
              go_simp
              try with_reducible rfl
            change wpAnyH _ _ _ _ _ _ _ (Act.put _ (some 160) _) _
            try simp only [Act.put, List.setIfInBounds_toArray, List.set_cons_zero, List.set_cons_succ]
            refine wpAnyH_done (by kernel_rfl) ?_ _
            refine NoPanic.normal ?_
            have hq0x := keep1 hHeld hq0
            have hBq6 := hBq.keeps hHeld
            have HIq := Lib.hid (hIq.keeps hHeld)
            generalize hw6 : World.drew wq = w6 at *
            clear hw6 hHeld hq0 hq1 hBq hIq
            have HBq6 := Lib.hid hBq6
            clear hBq6
            go_wp2_with fail
            go_loopw [12] (fun kv wr => ∃ q : Nat, kv = .int .i64 (q : Int) ∧ a ≤ q ∧ q ≤ b ∧ InAt wm wr G G l.length (fun j => cntF fs j + cntG (gs.take 0) j + ind a (q : Int) j) ∧ Blk wr Q 79 #[.int .i64 (a : Int), .int .i64 (b : Int)]) (fun kv _ => b - (intOf kv).toNat)
            case atStart => exact ⟨a, rfl, Nat.le_refl _, by omega, HIq.out.same (fun j hj => by unfold ind; split <;> omega), HBq6.out⟩
            case round =>
              obtain ⟨q, rfl, haq, hqb, hIr, hBr⟩ := hrel
              have hb0 : wr.cell? ⟨Q, 0, none⟩ = some (.int .i64 (a : Int)) := by rw [hBr.cell]; rfl
              have hb1 : wr.cell? ⟨Q, 1, none⟩ = some (.int .i64 (b : Int)) := by rw [hBr.cell]; rfl
              by_cases hqm : q < b
              · have hjl : q < l.length := by omega
                have hcell := hIr.cell hjl
                have hfz := hIr.frozen q
                have hnb : cntF fs q + cntG (gs.take 0) q ≤ 1 := by have h1 := HAll.out q hjl; have h2 := cntG_take_le (gs := gs) (i := 0) (j := q); omega
                have hind : ind a (q : Int) q = 0 := by unfold ind; rw [if_neg (by omega)]
                have hinc := hIr.inc q
                simp only [hind, Nat.add_zero] at hcell hinc
                obtain ⟨cc, hcc⟩ : ∃ cc, cntF fs q + cntG (gs.take 0) q = cc := ⟨_, rfl⟩
                rw [hcc] at hcell hnb hinc
                have HInc : Hid (InAt wm (wr.setCell ⟨G, q, none⟩ (.int .i64 ((cc : Int) + 1))) G G l.length (fun j => cntF fs j + cntG (gs.take 0) j + ind a ((q + 1 : Nat) : Int) j)) := Lib.hid (by
                  rw [show ((cc : Int) + 1) = (((cc + 1 : Nat)) : Int) from by omega]
                  refine hinc.same (fun j hj => ?_)
                  have hs : ind a ((q + 1 : Nat) : Int) j = if j = q then ind a (q : Int) j + 1 else ind a (q : Int) j := by
                    unfold ind
                    split <;> split <;> split <;> omega
                  rw [hs]
                  by_cases hj2 : j = q
                  · rw [if_pos hj2, if_pos hj2, hj2, hind, ← hcc]
                  · rw [if_neg hj2, if_neg hj2])
                have HBr := Lib.hid (hBr.far (p := ⟨G, q, none⟩) hQG (.int .i64 ((cc : Int) + 1)))
                clear hinc hind hIr hBr hcc
                go_wp2_with fail
                go_roundw
                case rel => exact ⟨q + 1, by simp, by omega, by omega, HInc.out, HBr.out⟩
                case measure =>
                  simp only [intOf]
                  omega
              · have hqe : q = b := by omega
                have HI9 : Hid (InAt wm wr G G l.length (fun j => cntF fs j + cntG (gs.take (0 + 1)) j)) := Lib.hid (hIr.same (fun j hj => by rw [HTk2.out, hqe]; omega))
                clear hIr hBr
                go_wp2_with fail
                go_roundw
                case rel => exact ⟨0 + 1, by simp, by omega, HI9.out⟩
                case measure =>
                  simp only [intOf]
                  omega
          · obtain ⟨y, hcp, hya⟩ := hprev (by omega)
            have e4 : (0 : Int) < (i2 : Int) := by omega
            have e5 : decide ((a : Int) ≤ y) = false := by simp; omega
            obtain ⟨i3, rfl⟩ : ∃ i3, i2 = i3 + 1 := ⟨i2 - 1, by omega⟩
            rw [Nat.add_sub_cancel] at hcp
            have hw3 : IntKind.i64.wrap (i3 : Int) = (i3 : Int) := IntWalk.i64_in _ (by omega)
            have hw4 : (i3 : Int) < (gs.length : Int) := by omega
            clear hprev
            refine wp_region_noPanic ?_
            refine wp_region_held_drew (S := fun w' => Keeps (wq) w') (by kernel_rfl) ((Keeps.refl _).drew) (fun _ => ?_)
            have hHeld : Keeps (wq) (wq).drew := (Keeps.refl _).drew
            refine wpAnyH_take (i := 0) (v := ?vv102) (by rfl) (by kernel_rfl) (by kernel_rfl) (by kernel_rfl) (by intro _ _ _ h; exact h) (Or.inl ⟨by kernel_rfl, ?hy102⟩) (by assumption) ?rest102
            case hy102 =>
              intro w' hSw
              have hSw : Keeps _ w' := hSw
              clear hSw
              go_simp
              try with_reducible rfl
            change wpAnyH _ _ _ _ _ _ _ (Act.put _ (some 129) _) _
            try simp only [Act.put, List.setIfInBounds_toArray, List.set_cons_zero, List.set_cons_succ]
            refine wpAnyH_take (i := 1) (v := ?vv103) (by rfl) (by kernel_rfl) (by kernel_rfl) (by kernel_rfl) (by intro _ _ _ h; exact h) (Or.inl ⟨by kernel_rfl, ?hy103⟩) (by assumption) ?rest103
            case hy103 =>
              intro w' hSw
              have hSw : Keeps _ w' := hSw
              have hx := keep1 hSw hq0
              clear hSw
              go_simp
              try with_reducible rfl
            change wpAnyH _ _ _ _ _ _ _ (Act.put _ (some 130) _) _
            try simp only [Act.put, List.setIfInBounds_toArray, List.set_cons_zero, List.set_cons_succ]
            refine wpAnyH_take (i := 2) (v := ?vv104) (by rfl) (by kernel_rfl) (by kernel_rfl) (by kernel_rfl) (by intro _ _ _ h; exact h) (Or.inl ⟨by kernel_rfl, ?hy104⟩) (by assumption) ?rest104
            case hy104 =>
              intro w' hSw
              have hSw : Keeps _ w' := hSw
              clear hSw
              go_simp
              try with_reducible rfl
            change wpAnyH _ _ _ _ _ _ _ (Act.put _ (some 131) _) _
            try simp only [Act.put, List.setIfInBounds_toArray, List.set_cons_zero, List.set_cons_succ]
            refine wpAnyH_take (i := 3) (v := ?vv105) (by rfl) (by kernel_rfl) (by kernel_rfl) (by kernel_rfl) (by intro _ _ _ h; exact h) (Or.inl ⟨by kernel_rfl, ?hy105⟩) (by assumption) ?rest105
            case hy105 =>
              intro w' hSw
              have hSw : Keeps _ w' := hSw
              clear hSw
              go_simp
              try with_reducible rfl
            change wpAnyH _ _ _ _ _ _ _ (Act.put _ (some 132) _) _
            try simp only [Act.put, List.setIfInBounds_toArray, List.set_cons_zero, List.set_cons_succ]
            refine wpAnyH_take (i := 4) (v := ?vv106) (by rfl) (by kernel_rfl) (by kernel_rfl) (by kernel_rfl) (by intro _ _ _ h; exact h) (Or.inl ⟨by kernel_rfl, ?hy106⟩) (by assumption) ?rest106
            case hy106 =>
              intro w' hSw
              have hSw : Keeps _ w' := hSw
              clear hSw
              go_simp
              try with_reducible rfl
            change wpAnyH _ _ _ _ _ _ _ (Act.put _ (some 133) _) _
            try simp only [Act.put, List.setIfInBounds_toArray, List.set_cons_zero, List.set_cons_succ]
            refine wpAnyH_take (i := 5) (v := ?vv107) (by rfl) (by kernel_rfl) (by kernel_rfl) (by kernel_rfl) (by intro _ _ _ h; exact h) (Or.inl ⟨by kernel_rfl, ?hy107⟩) (by assumption) ?rest107
            case hy107 =>
              intro w' hSw
              have hSw : Keeps _ w' := hSw
              have hx := keep1 hSw hq0
              clear hSw
              go_simp
              try with_reducible rfl
            change wpAnyH _ _ _ _ _ _ _ (Act.put _ (some 134) _) _
            try simp only [Act.put, List.setIfInBounds_toArray, List.set_cons_zero, List.set_cons_succ]
            refine wpAnyH_take (i := 6) (v := ?vv108) (by rfl) (by kernel_rfl) (by kernel_rfl) (by kernel_rfl) (by intro _ _ _ h; exact h) (Or.inl ⟨by kernel_rfl, ?hy108⟩) (by assumption) ?rest108
            case hy108 =>
              intro w' hSw
              have hSw : Keeps _ w' := hSw
              clear hSw
              go_simp
              try with_reducible rfl
            change wpAnyH _ _ _ _ _ _ _ (Act.put _ (some 135) _) _
            try simp only [Act.put, List.setIfInBounds_toArray, List.set_cons_zero, List.set_cons_succ]
            refine wpAnyH_take (i := 7) (v := ?vv109) (by rfl) (by kernel_rfl) (by kernel_rfl) (by kernel_rfl) (by intro _ _ _ h; exact h) (Or.inl ⟨by kernel_rfl, ?hy109⟩) (by assumption) ?rest109
            case hy109 =>
              intro w' hSw
              have hSw : Keeps _ w' := hSw
              have hx := keep1 hSw hq1
              clear hSw
              go_simp
              try with_reducible rfl
            change wpAnyH _ _ _ _ _ _ _ (Act.put _ (some 136) _) _
            try simp only [Act.put, List.setIfInBounds_toArray, List.set_cons_zero, List.set_cons_succ]
            refine wpAnyH_take (i := 8) (v := ?vv110) (by rfl) (by kernel_rfl) (by kernel_rfl) (by kernel_rfl) (by intro _ _ _ h; exact h) (Or.inl ⟨by kernel_rfl, ?hy110⟩) (by assumption) ?rest110
            case hy110 =>
              intro w' hSw
              have hSw : Keeps _ w' := hSw
              clear hSw
              go_simp
              try with_reducible rfl
            change wpAnyH _ _ _ _ _ _ _ (Act.put _ (some 137) _) _
            try simp only [Act.put, List.setIfInBounds_toArray, List.set_cons_zero, List.set_cons_succ]
            refine wpAnyH_take (i := 9) (v := ?vv111) (by rfl) (by kernel_rfl) (by kernel_rfl) (by kernel_rfl) (by intro _ _ _ h; exact h) (Or.inl ⟨by kernel_rfl, ?hy111⟩) (by assumption) ?rest111
            case hy111 =>
              intro w' hSw
              have hSw : Keeps _ w' := hSw
              clear hSw
              go_simp
              try with_reducible rfl
            change wpAnyH _ _ _ _ _ _ _ (Act.put _ (some 138) _) _
            try simp only [Act.put, List.setIfInBounds_toArray, List.set_cons_zero, List.set_cons_succ]
            refine wpAnyH_take (i := 10) (v := ?vv112) (by rfl) (by kernel_rfl) (by kernel_rfl) (by kernel_rfl) (by intro _ _ _ h; exact h) (Or.inl ⟨by kernel_rfl, ?hy112⟩) (by assumption) ?rest112
            case hy112 =>
              intro w' hSw
              have hSw : Keeps _ w' := hSw
              clear hSw
              go_simp
              try with_reducible rfl
            change wpAnyH _ _ _ _ _ _ _ (Act.put _ (some 139) _) _
            try simp only [Act.put, List.setIfInBounds_toArray, List.set_cons_zero, List.set_cons_succ]
            refine wpAnyH_take (i := 11) (v := ?vv113) (by rfl) (by kernel_rfl) (by kernel_rfl) (by kernel_rfl) (by intro _ _ _ h; exact h) (Or.inl ⟨by kernel_rfl, ?hy113⟩) (by assumption) ?rest113
            case hy113 =>
              intro w' hSw
              have hSw : Keeps _ w' := hSw
              clear hSw
              go_simp
              try with_reducible rfl
            change wpAnyH _ _ _ _ _ _ _ (Act.put _ (some 140) _) _
            try simp only [Act.put, List.setIfInBounds_toArray, List.set_cons_zero, List.set_cons_succ]
            refine wpAnyH_take (i := 12) (v := ?vv114) (by rfl) (by kernel_rfl) (by kernel_rfl) (by kernel_rfl) (by intro _ _ _ h; exact h) (Or.inl ⟨by kernel_rfl, ?hy114⟩) (by assumption) ?rest114
            case hy114 =>
              intro w' hSw
              have hSw : Keeps _ w' := hSw
              have hx := keep1 hSw hq1
              clear hSw
              go_simp
              try with_reducible rfl
            change wpAnyH _ _ _ _ _ _ _ (Act.put _ (some 141) _) _
            try simp only [Act.put, List.setIfInBounds_toArray, List.set_cons_zero, List.set_cons_succ]
            refine wpAnyH_take (i := 13) (v := ?vv115) (by rfl) (by kernel_rfl) (by kernel_rfl) (by kernel_rfl) (by intro _ _ _ h; exact h) (Or.inl ⟨by kernel_rfl, ?hy115⟩) (by assumption) ?rest115
            case hy115 =>
              intro w' hSw
              have hSw : Keeps _ w' := hSw
              clear hSw
              go_simp
              try with_reducible rfl
            change wpAnyH _ _ _ _ _ _ _ (Act.put _ (some 142) _) _
            try simp only [Act.put, List.setIfInBounds_toArray, List.set_cons_zero, List.set_cons_succ]
            refine wpAnyH_take (i := 14) (v := ?vv116) (by rfl) (by kernel_rfl) (by kernel_rfl) (by kernel_rfl) (by intro _ _ _ h; exact h) (Or.inl ⟨by kernel_rfl, ?hy116⟩) (by assumption) ?rest116
            case hy116 =>
              intro w' hSw
              have hSw : Keeps _ w' := hSw
              clear hSw
              go_simp
              try with_reducible rfl
            change wpAnyH _ _ _ _ _ _ _ (Act.put _ (some 143) _) _
            try simp only [Act.put, List.setIfInBounds_toArray, List.set_cons_zero, List.set_cons_succ]
            refine wpAnyH_take (i := 15) (v := ?vv117) (by rfl) (by kernel_rfl) (by kernel_rfl) (by kernel_rfl) (by intro _ _ _ h; exact h) (Or.inl ⟨by kernel_rfl, ?hy117⟩) (by assumption) ?rest117
            case hy117 =>
              intro w' hSw
              have hSw : Keeps _ w' := hSw
              clear hSw
              go_simp
              try with_reducible rfl
            change wpAnyH _ _ _ _ _ _ _ (Act.put _ (some 144) _) _
            try simp only [Act.put, List.setIfInBounds_toArray, List.set_cons_zero, List.set_cons_succ]
            refine wpAnyH_take (i := 16) (v := ?vv118) (by rfl) (by kernel_rfl) (by kernel_rfl) (by kernel_rfl) (by intro _ _ _ h; exact h) (Or.inl ⟨by kernel_rfl, ?hy118⟩) (by assumption) ?rest118
            case hy118 =>
              intro w' hSw
              have hSw : Keeps _ w' := hSw
              clear hSw
              go_simp
              try with_reducible rfl
            change wpAnyH _ _ _ _ _ _ _ (Act.put _ (some 145) _) _
            try simp only [Act.put, List.setIfInBounds_toArray, List.set_cons_zero, List.set_cons_succ]
            refine wpAnyH_take (i := 17) (v := ?vv119) (by rfl) (by kernel_rfl) (by kernel_rfl) (by kernel_rfl) (by intro _ _ _ h; exact h) (Or.inl ⟨by kernel_rfl, ?hy119⟩) (by assumption) ?rest119
            case hy119 =>
              intro w' hSw
              have hSw : Keeps _ w' := hSw
              clear hSw
              go_simp
              try with_reducible rfl
            change wpAnyH _ _ _ _ _ _ _ (Act.put _ (some 146) _) _
            try simp only [Act.put, List.setIfInBounds_toArray, List.set_cons_zero, List.set_cons_succ]
            refine wpAnyH_take (i := 18) (v := ?vv120) (by rfl) (by kernel_rfl) (by kernel_rfl) (by kernel_rfl) (by intro _ _ _ h; exact h) (Or.inl ⟨by kernel_rfl, ?hy120⟩) (by assumption) ?rest120
            case hy120 =>
              intro w' hSw
              have hSw : Keeps _ w' := hSw
              clear hSw
              go_simp
              try with_reducible rfl
            change wpAnyH _ _ _ _ _ _ _ (Act.put _ (some 147) _) _
            try simp only [Act.put, List.setIfInBounds_toArray, List.set_cons_zero, List.set_cons_succ]
            refine wpAnyH_take (i := 19) (v := ?vv121) (by rfl) (by kernel_rfl) (by kernel_rfl) (by kernel_rfl) (by intro _ _ _ h; exact h) (Or.inl ⟨by kernel_rfl, ?hy121⟩) (by assumption) ?rest121
            case hy121 =>
              intro w' hSw
              have hSw : Keeps _ w' := hSw
              clear hSw
              go_simp
              try with_reducible rfl
            change wpAnyH _ _ _ _ _ _ _ (Act.put _ (some 148) _) _
            try simp only [Act.put, List.setIfInBounds_toArray, List.set_cons_zero, List.set_cons_succ]
            refine wpAnyH_take (i := 20) (v := ?vv122) (by rfl) (by kernel_rfl) (by kernel_rfl) (by kernel_rfl) (by intro _ _ _ h; exact h) (Or.inl ⟨by kernel_rfl, ?hy122⟩) (by assumption) ?rest122
            case hy122 =>
              intro w' hSw
              have hSw : Keeps _ w' := hSw
              clear hSw
              go_simp
              try with_reducible rfl
            change wpAnyH _ _ _ _ _ _ _ (Act.put _ (some 149) _) _
            try simp only [Act.put, List.setIfInBounds_toArray, List.set_cons_zero, List.set_cons_succ]
            refine wpAnyH_take (i := 21) (v := ?vv123) (by rfl) (by kernel_rfl) (by kernel_rfl) (by kernel_rfl) (by intro _ _ _ h; exact h) (Or.inl ⟨by kernel_rfl, ?hy123⟩) (by assumption) ?rest123
            case hy123 =>
              intro w' hSw
              have hSw : Keeps _ w' := hSw
              clear hSw
              go_simp
              try with_reducible rfl
            change wpAnyH _ _ _ _ _ _ _ (Act.put _ (some 150) _) _
            try simp only [Act.put, List.setIfInBounds_toArray, List.set_cons_zero, List.set_cons_succ]
            refine wpAnyH_take (i := 22) (v := ?vv124) (by rfl) (by kernel_rfl) (by kernel_rfl) (by kernel_rfl) (by intro _ _ _ h; exact h) (Or.inl ⟨by kernel_rfl, ?hy124⟩) (by assumption) ?rest124
            case hy124 =>
              intro w' hSw
              have hSw : Keeps _ w' := hSw
              clear hSw
              go_simp
              try with_reducible rfl
            change wpAnyH _ _ _ _ _ _ _ (Act.put _ (some 151) _) _
            try simp only [Act.put, List.setIfInBounds_toArray, List.set_cons_zero, List.set_cons_succ]
            refine wpAnyH_take (i := 23) (v := ?vv125) (by rfl) (by kernel_rfl) (by kernel_rfl) (by kernel_rfl) (by intro _ _ _ h; exact h) (Or.inl ⟨by kernel_rfl, ?hy125⟩) (by assumption) ?rest125
            case hy125 =>
              intro w' hSw
              have hSw : Keeps _ w' := hSw
              clear hSw
              go_simp
              try with_reducible rfl
            change wpAnyH _ _ _ _ _ _ _ (Act.put _ (some 152) _) _
            try simp only [Act.put, List.setIfInBounds_toArray, List.set_cons_zero, List.set_cons_succ]
            refine wpAnyH_take (i := 24) (v := ?vv126) (by rfl) (by kernel_rfl) (by kernel_rfl) (by kernel_rfl) (by intro _ _ _ h; exact h) (Or.inl ⟨by kernel_rfl, ?hy126⟩) (by assumption) ?rest126
            case hy126 =>
              intro w' hSw
              have hSw : Keeps _ w' := hSw
              clear hSw
              go_simp
              try with_reducible rfl
            change wpAnyH _ _ _ _ _ _ _ (Act.put _ (some 153) _) _
            try simp only [Act.put, List.setIfInBounds_toArray, List.set_cons_zero, List.set_cons_succ]
            refine wpAnyH_take (i := 25) (v := ?vv127) (by rfl) (by kernel_rfl) (by kernel_rfl) (by kernel_rfl) (by intro _ _ _ h; exact h) (Or.inl ⟨by kernel_rfl, ?hy127⟩) (by assumption) ?rest127
            case hy127 =>
              intro w' hSw
              have hSw : Keeps _ w' := hSw
              clear hSw
              go_simp
              try with_reducible rfl
            change wpAnyH _ _ _ _ _ _ _ (Act.put _ (some 154) _) _
            try simp only [Act.put, List.setIfInBounds_toArray, List.set_cons_zero, List.set_cons_succ]
            refine wpAnyH_take (i := 26) (v := ?vv128) (by rfl) (by kernel_rfl) (by kernel_rfl) (by kernel_rfl) (by intro _ _ _ h; exact h) (Or.inl ⟨by kernel_rfl, ?hy128⟩) (by assumption) ?rest128
            case hy128 =>
              intro w' hSw
              have hSw : Keeps _ w' := hSw
              have hx := keep1 hSw hcp
              clear hSw
              go_simp
              try with_reducible rfl
            change wpAnyH _ _ _ _ _ _ _ (Act.put _ (some 155) _) _
            try simp only [Act.put, List.setIfInBounds_toArray, List.set_cons_zero, List.set_cons_succ]
            refine wpAnyH_take (i := 27) (v := ?vv129) (by rfl) (by kernel_rfl) (by kernel_rfl) (by kernel_rfl) (by intro _ _ _ h; exact h) (Or.inl ⟨by kernel_rfl, ?hy129⟩) (by assumption) ?rest129
            case hy129 =>
              intro w' hSw
              have hSw : Keeps _ w' := hSw
              clear hSw
              go_simp
              try with_reducible rfl
            change wpAnyH _ _ _ _ _ _ _ (Act.put _ (some 156) _) _
            try simp only [Act.put, List.setIfInBounds_toArray, List.set_cons_zero, List.set_cons_succ]
            refine wpAnyH_take (i := 28) (v := ?vv130) (by rfl) (by kernel_rfl) (by kernel_rfl) (by kernel_rfl) (by intro _ _ _ h; exact h) (Or.inl ⟨by kernel_rfl, ?hy130⟩) (by assumption) ?rest130
            case hy130 =>
              intro w' hSw
              have hSw : Keeps _ w' := hSw
              have hx := keep1 hSw hq0
              clear hSw
              go_simp
              try with_reducible rfl
            change wpAnyH _ _ _ _ _ _ _ (Act.put _ (some 157) _) _
            try simp only [Act.put, List.setIfInBounds_toArray, List.set_cons_zero, List.set_cons_succ]
            refine wpAnyH_take (i := 29) (v := ?vv131) (by rfl) (by kernel_rfl) (by kernel_rfl) (by kernel_rfl) (by intro _ _ _ h; exact h) (Or.inl ⟨by kernel_rfl, ?hy131⟩) (by assumption) ?rest131
            case hy131 =>
              intro w' hSw
              have hSw : Keeps _ w' := hSw
              clear hSw
              go_simp
              try with_reducible rfl
            change wpAnyH _ _ _ _ _ _ _ (Act.put _ (some 158) _) _
            try simp only [Act.put, List.setIfInBounds_toArray, List.set_cons_zero, List.set_cons_succ]
            refine wpAnyH_take (i := 30) (v := ?vv132) (by rfl) (by kernel_rfl) (by kernel_rfl) (by kernel_rfl) (by intro _ _ _ h; exact h) (Or.inl ⟨by kernel_rfl, ?hy132⟩) (by assumption) ?rest132
            case hy132 =>
              intro w' hSw
              have hSw : Keeps _ w' := hSw
              clear hSw
              go_simp
              try with_reducible rfl
            change wpAnyH _ _ _ _ _ _ _ (Act.put _ (some 159) _) _
            try simp only [Act.put, List.setIfInBounds_toArray, List.set_cons_zero, List.set_cons_succ]
            refine wpAnyH_take (i := 31) (v := ?vv133) (by rfl) (by kernel_rfl) (by kernel_rfl) (by kernel_rfl) (by intro _ _ _ h; exact h) (Or.inl ⟨by kernel_rfl, ?hy133⟩) (by assumption) ?rest133
            case hy133 =>
              intro w' hSw
              have hSw : Keeps _ w' := hSw
              clear hSw
              go_simp
              try with_reducible rfl
            change wpAnyH _ _ _ _ _ _ _ (Act.put _ (some 160) _) _
            try simp only [Act.put, List.setIfInBounds_toArray, List.set_cons_zero, List.set_cons_succ]
            refine wpAnyH_done (by kernel_rfl) ?_ _
            refine NoPanic.normal ?_
            have hq0x := keep1 hHeld hq0
            have hBq6 := hBq.keeps hHeld
            have HIq := Lib.hid (hIq.keeps hHeld)
            generalize hw6 : World.drew wq = w6 at *
            clear hw6 hHeld hq0 hq1 hBq hIq
            have HBq6 := Lib.hid hBq6
            clear hBq6
            go_wp2_with fail
            go_loopw [12] (fun kv wr => ∃ q : Nat, kv = .int .i64 (q : Int) ∧ a ≤ q ∧ q ≤ b ∧ InAt wm wr G G l.length (fun j => cntF fs j + cntG (gs.take (i3 + 1)) j + ind a (q : Int) j) ∧ Blk wr Q 79 #[.int .i64 (a : Int), .int .i64 (b : Int)]) (fun kv _ => b - (intOf kv).toNat)
            case atStart => exact ⟨a, rfl, Nat.le_refl _, by omega, HIq.out.same (fun j hj => by unfold ind; split <;> omega), HBq6.out⟩
            case round =>
              obtain ⟨q, rfl, haq, hqb, hIr, hBr⟩ := hrel
              have hb0 : wr.cell? ⟨Q, 0, none⟩ = some (.int .i64 (a : Int)) := by rw [hBr.cell]; rfl
              have hb1 : wr.cell? ⟨Q, 1, none⟩ = some (.int .i64 (b : Int)) := by rw [hBr.cell]; rfl
              by_cases hqm : q < b
              · have hjl : q < l.length := by omega
                have hcell := hIr.cell hjl
                have hfz := hIr.frozen q
                have hnb : cntF fs q + cntG (gs.take (i3 + 1)) q ≤ 1 := by have h1 := HAll.out q hjl; have h2 := cntG_take_le (gs := gs) (i := (i3 + 1)) (j := q); omega
                have hind : ind a (q : Int) q = 0 := by unfold ind; rw [if_neg (by omega)]
                have hinc := hIr.inc q
                simp only [hind, Nat.add_zero] at hcell hinc
                obtain ⟨cc, hcc⟩ : ∃ cc, cntF fs q + cntG (gs.take (i3 + 1)) q = cc := ⟨_, rfl⟩
                rw [hcc] at hcell hnb hinc
                have HInc : Hid (InAt wm (wr.setCell ⟨G, q, none⟩ (.int .i64 ((cc : Int) + 1))) G G l.length (fun j => cntF fs j + cntG (gs.take (i3 + 1)) j + ind a ((q + 1 : Nat) : Int) j)) := Lib.hid (by
                  rw [show ((cc : Int) + 1) = (((cc + 1 : Nat)) : Int) from by omega]
                  refine hinc.same (fun j hj => ?_)
                  have hs : ind a ((q + 1 : Nat) : Int) j = if j = q then ind a (q : Int) j + 1 else ind a (q : Int) j := by
                    unfold ind
                    split <;> split <;> split <;> omega
                  rw [hs]
                  by_cases hj2 : j = q
                  · rw [if_pos hj2, if_pos hj2, hj2, hind, ← hcc]
                  · rw [if_neg hj2, if_neg hj2])
                have HBr := Lib.hid (hBr.far (p := ⟨G, q, none⟩) hQG (.int .i64 ((cc : Int) + 1)))
                clear hinc hind hIr hBr hcc
                go_wp2_with fail
                go_roundw
                case rel => exact ⟨q + 1, by simp, by omega, by omega, HInc.out, HBr.out⟩
                case measure =>
                  simp only [intOf]
                  omega
              · have hqe : q = b := by omega
                have HI9 : Hid (InAt wm wr G G l.length (fun j => cntF fs j + cntG (gs.take ((i3 + 1) + 1)) j)) := Lib.hid (hIr.same (fun j hj => by rw [HTk2.out, hqe]; omega))
                clear hIr hBr
                go_wp2_with fail
                go_roundw
                case rel => exact ⟨(i3 + 1) + 1, by simp, by omega, HI9.out⟩
                case measure =>
                  simp only [intOf]
                  omega
        · have hi9 : i2 = gs.length := by omega
          have hOne : InAt wm wr G G l.length (fun _ => 1) := hI.same (fun j hj => by
            rw [hi9, List.take_length]
            exact HAll.out j hj)
          have HKe := Lib.hid (hI.mods.keeps HKm.out (fun x hx => by rw [hx]; exact hszG))
          have HOne := Lib.hid hOne
          clear hI hGa hOne hi9
          go_wp2_with fail
          go_loopw [13] (fun jv wz => ∃ j : Nat, jv = .int .i64 (j : Int) ∧ j ≤ l.length ∧ wz = wr) (fun jv _ => l.length - (intOf jv).toNat)
          case atStart => exact ⟨0, rfl, Nat.zero_le _, rfl⟩
          case round =>
            obtain ⟨j, rfl, hj, rfl⟩ := hrel
            by_cases hjl : j < l.length
            · have hcell : wr.cell? ⟨G, j, none⟩ = some (.int .i64 1) := HOne.out.cell hjl
              go_wp2_with fail
              go_roundw
              case rel => exact ⟨j + 1, by simp, by omega, trivial⟩
              case measure =>
                simp only [intOf]
                omega
            · go_wp2_with fail
              go_ret
              exact ⟨rfl, HKe.out⟩
end Frm
end Go.Proofs.Ytfmjlgkbohidjaa
