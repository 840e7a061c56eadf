/- Several texts in one: RfTurn, RfUnlink, RfName, RfRename, RfCreate, RfOver. -/
import Derived.Test.YtchjncnolmiejaaK35
import Derived.Test.YtchjncnolmiejaaVdNext
/- The document's disk: turn. -/
namespace Go.Proofs.Ytchjncnolmiejaa
open Go.RowKit
namespace Rf
open Vd
theorem trM : Mids Try.prog 179 3 := ⟨⟨_, Try.underlying179, rfl⟩, by kernel_rfl⟩
theorem trok : ElemOkS Try.prog 111 179 3 40 := elemOkS (z := .agg #[.string (bstr []), .string (bstr []), .int .i64 0]) Try.underlying111 (by kernel_rfl) rfl
theorem trC_flat (l : List RTurn) : ∀ u ∈ l.flatMap trC, u.oneCell' = true := fun u hu => by
  obtain ⟨p, -, hp⟩ := List.mem_flatMap.1 hu
  simp [trC, trA] at hp
  rcases hp with rfl | rfl | rfl <;> rfl
set_option maxRecDepth 100000 in
set_option maxHeartbeats 4000000 in
theorem turn_r (w : World) {M : Nat → Prop} {m : Nat} {d : RDsk} {k : Nat} (h : RefAt w M m d k) (hk : k ≤ 1000000) (t : RTurn) (hf : RFit (turnR d t) (k + 1)) : Calls Try.prog 113 #[.pointer (some ⟨m, 0, none⟩), .agg (trA t)] w fun e w' => e = .returned (.tuple #[]) ∧ RefAt w' (More M w w') m (turnR d t) (k + 1) ∧ Mods (· = m) w w' := by
  obtain ⟨fv, nv, sv, wv, fw, h⟩ := h
  have H := Lib.hid h
  have HF := Lib.hid hf
  have hwl : d.waits.length ≤ 1000000 := Nat.le_trans h.fit.w hk
  have hnl : d.now.length ≤ 100000000 := by have := h.fit.n; omega
  obtain ⟨pw, cw, rfl, -, -⟩ := Frm.ownsRow_form h.turns
  obtain ⟨pn, cn, rfl, -, -⟩ := Frm.ownsRow_form h.now
  clear h hf
  obtain ⟨n, hn⟩ : ∃ n, n = d.waits.length := ⟨_, rfl⟩
  have HN := Lib.hid hn
  have HTU := Lib.hid (show w.ownsRow 0 179 3 (.slice pw n cw) n (d.waits.flatMap trC) from by rw [hn]; exact H.out.turns)
  have HBL := Lib.hid (show Blk w m 113 (rdA d fv (.slice pn d.now.length cn) sv (.slice pw n cw)) from by rw [hn]; exact H.out.blk)
  rw [← hn] at hwl
  clear hn
  obtain ⟨fr, dst, fi⟩ := t
  go_enter Try.func113, Try.ntmps113
  go_upto_region 1 with fail
  generalize hW : World.alloc w _ = w1
  have HK1 := Lib.hid (show Keeps w w1 from by rw [← hW]; exact (Keeps.refl _).alloc _)
  have HQ1 := Lib.hid (show Blk w1 w.heap.size 179 #[.string (bstr fr), .string (bstr dst), .int .i64 fi] from by rw [← hW]; exact Blk.new _ _ _ rfl)
  clear hW
  obtain ⟨q, hq⟩ : ∃ q, q = w.heap.size := ⟨_, rfl⟩
  rw [← hq] at HQ1 ⊢
  have HQ := Lib.hid hq
  clear hq
  have HB1 := Lib.hid (HBL.out.keeps HK1.out)
  have c3 : w1.cell? ⟨m, 3, none⟩ = some (.slice pw n cw) := by rw [HB1.out.cell]; rfl
  go_upto_region 3 with (at_builtin; go_loud (refine wpList_apps (base := w1.heap.size) trok (by decide) rfl _ _ rfl (.slice none 0 0) (.slice pw n cw) 0 n [] (d.waits.flatMap trC) rfl rfl (World.ownsRow_nil _ _ _ 3) (rowS_of (Frm.ownsRow_keeps HTU.out HK1.out)) (trC_flat _) (by omega) (by decide) (Nat.le_refl _) ?_; intro v2 w2 ho2 hg2 hf2; obtain ⟨p2, c2, rfl, -, -⟩ := Frm.ownsRow_form ho2))
  have HO2 := Lib.hid (show w2.ownsRow w1.heap.size 179 3 (.slice p2 n c2) n (d.waits.flatMap trC) from by simpa using ho2)
  have HK2 := Lib.hid (show Keeps w1 w2 from (Keeps.refl w1).grown hg2 (fun k hk => by simp [Value.ownBlock] at hk))
  have HQ2 := Lib.hid (show Blk w2 q 179 #[.string (bstr fr), .string (bstr dst), .int .i64 fi] from HQ1.out.keeps HK2.out)
  have hs2 := HK2.out.size
  clear ho2 hg2 hf2 c3
  go_upto_region 4 with (first
    | refine wpList_ld rfl trM HQ2.out _ rfl rfl ?_
    | (at_builtin; go_loud (refine wpList_apps (base := w1.heap.size) trok (by decide) rfl _ _ rfl (.slice p2 n c2) (.slice (some ⟨w2.heap.size, 0, none⟩) 1 1) n 1 (d.waits.flatMap trC) (trC ⟨fr, dst, fi⟩) rfl rfl (Frm.ownsRow_keeps HO2.out ((Keeps.refl _).alloc _)) (Frm.rowS_lit rfl rfl rfl) (by simp [trC, trA, Value.oneCell']) (by omega) (by decide) (by rw [Frm.alloc_size]; omega) ?_; intro v3 w3 ho3 hg3 hf3; obtain ⟨p3, c3, rfl, -, -⟩ := Frm.ownsRow_form ho3; have HK3 := Lib.hid (show Keeps w1 w3 from (HK2.out.alloc _).grown hg3 (Frm.ownsRow_base HO2.out)); have HB3 := Lib.hid (HB1.out.keeps HK3.out); have hc3 : w3.cell? ⟨m, 3, none⟩ = some (.slice pw n cw) := by { rw [HB3.out.cell]; rfl }; have hz3 : w3.frozen? ⟨m, 3, none⟩ = false := HB3.out.frozen _; have HO3 := Lib.hid ho3; clear ho3 hg3 hf3)))
  have HM4 := Lib.hid ((Mods.of_keeps (S := (· = m)) (HK1.out.trans HK3.out)).setCell (p := ⟨m, 3, none⟩) (fun _ => rfl) (.slice p3 (n + 1) c3))
  have HM34 := Lib.hid ((Mods.refl (· = m) w3).setCell (p := ⟨m, 3, none⟩) (fun _ => rfl) (.slice p3 (n + 1) c3))
  have HB4 := Lib.hid (show Blk (w3.setCell ⟨m, 3, none⟩ (.slice p3 (n + 1) c3)) m 113 (rdA d fv (.slice pn d.now.length cn) sv (.slice p3 (n + 1) c3)) from HB3.out.set_ 3 _)
  have HO4 := Lib.hid (Frm.ownsRow_mods HO3.out HM34.out (fun y hy e => Frm.ownsRow_ne HO3.out HB3.out (by decide) (by rw [hy, e])))
  have HQM := Lib.hid (show q ≠ m from fun e => by have := HBL.out.lt; have := HQ.out; omega)
  have HQ4 := Lib.hid ((HQ1.out.keeps HK3.out).mods HM34.out (fun e => HQM.out e))
  clear hc3 hz3
  generalize w3.setCell ⟨m, 3, none⟩ (.slice p3 (n + 1) c3) = w4 at *
  have HNW := Lib.hid ((H.out.rows HM4.out).2.2.1)
  have HNM : Hid ((Value.slice pn d.now.length cn).ownBlock ≠ some m) := Lib.hid (fun e => Frm.ownsRow_ne H.out.now H.out.blk (by decide) e)
  have HXd := Lib.hid HB4.out.drew
  have HNd := Lib.hid (NmsOwn.mods HNW.out (Mods.of_keeps (S := fun _ => False) (Keeps.refl w4).drew) (fun _ _ h => h))
  refine wp_region_noPanic ?_
  refine wp_region_held_drew (S := fun w' => Mods (· = m) w4 w') (by kernel_rfl) ((Mods.refl (· = m) w4).drew) (fun _ => ?_)
  have hHeld : Mods (· = m) w4 (w4).drew := (Mods.refl (· = m) w4).drew
  generalize World.drew w4 = xs at *
  refine wpAnyH_take (i := 0) (v := ?vv1) (by rfl) (by kernel_rfl) (by kernel_rfl) (by kernel_rfl) (by intro _ _ _ h; exact h) (Or.inl ⟨by kernel_rfl, ?hy1⟩) (by assumption) ?rest1
  case hy1 =>
    intro w' hSw
    have hSw : Mods (· = m) w4 w' := hSw
    clear hSw
    go_simp
    try with_reducible rfl
  change wpAnyH _ _ _ _ _ _ _ (Act.put _ (some 18) _) _
  try simp only [Act.put, List.setIfInBounds_toArray, List.set_cons_zero, List.set_cons_succ]
  refine wpAnyH_take (i := 1) (v := ?vv2) (by rfl) (by kernel_rfl) (by kernel_rfl) (by kernel_rfl) (by intro _ _ _ h; exact h) (Or.inl ⟨by kernel_rfl, ?hy2⟩) (by assumption) ?rest2
  case hy2 =>
    intro w' hSw
    have hSw : Mods (· = m) w4 w' := hSw
    clear hSw
    go_simp
    try with_reducible rfl
  change wpAnyH _ _ _ _ _ _ _ (Act.put _ (some 19) _) _
  try simp only [Act.put, List.setIfInBounds_toArray, List.set_cons_zero, List.set_cons_succ]
  refine wpAnyH_take (i := 2) (v := ?vv3) (by rfl) (by kernel_rfl) (by kernel_rfl) (by kernel_rfl) (by intro _ _ _ h; exact h) (Or.inl ⟨by kernel_rfl, ?hy3⟩) (by assumption) ?rest3
  case hy3 =>
    intro w' hSw
    have hSw : Mods (· = m) w4 w' := hSw
    clear hSw
    go_simp
    try with_reducible rfl
  change wpAnyH _ _ _ _ _ _ _ (Act.put _ (some 20) _) _
  try simp only [Act.put, List.setIfInBounds_toArray, List.set_cons_zero, List.set_cons_succ]
  refine wpAnyH_take (i := 3) (v := ?vv4) (by rfl) (by kernel_rfl) (by kernel_rfl) (by kernel_rfl) (by intro _ _ _ h; exact h) (Or.inl ⟨by kernel_rfl, ?hy4⟩) (by assumption) ?rest4
  case hy4 =>
    intro w' hSw
    have hSw : Mods (· = m) w4 w' := hSw
    clear hSw
    go_simp
    try with_reducible rfl
  change wpAnyH _ _ _ _ _ _ _ (Act.put _ (some 21) _) _
  try simp only [Act.put, List.setIfInBounds_toArray, List.set_cons_zero, List.set_cons_succ]
  refine wpAnyH_take (i := 5) (v := ?vv5) (by rfl) (by kernel_rfl) (by kernel_rfl) (by kernel_rfl) (by intro _ _ _ h; exact h) (Or.inl ⟨by kernel_rfl, ?hy5⟩) (by assumption) ?rest5
  case hy5 =>
    intro w' hSw
    have hSw : Mods (· = m) w4 w' := hSw
    have hBq := HQ4.out.mods hSw (fun e => HQM.out e)
    have hx0 : World.cell? w' ⟨q, 0, none⟩ = some (.string (bstr fr)) := by rw [hBq.cell]; rfl
    have hx1 : World.cell? w' ⟨q, 1, none⟩ = some (.string (bstr dst)) := by rw [hBq.cell]; rfl
    have hx2 : World.cell? w' ⟨q, 2, none⟩ = some (.int .i64 fi) := by rw [hBq.cell]; rfl
    clear hSw
    go_simp
    try with_reducible rfl
  change wpAnyH _ _ _ _ _ _ _ (Act.put _ (some 23) _) _
  try simp only [Act.put, List.setIfInBounds_toArray, List.set_cons_zero, List.set_cons_succ]
  refine wpAnyH_ready (rs := [4]) (by kernel_rfl) (by simp) ?_
  refine AllReadyH.cons (o := _) rfl (fun K hK => ?_) ?_
  · have hx : World.cell? xs ⟨m, 1, none⟩ = some (Value.slice pn d.now.length cn) := by rw [HXd.out.cell]; rfl
    go_simp
    clear hx
    have hb := hHeld
    refine hK.out _ _ hb (fun _ => ?_)
    clear hK K hHeld
    have hHeld : Mods (· = m) w4 xs := hb
    clear hb
    try simp only [Act.put, List.setIfInBounds_toArray, List.set_cons_zero, List.set_cons_succ]
    refine wpAnyH_ready (rs := [6]) (by kernel_rfl) (by simp) ?_
    refine AllReadyH.cons (o := _) rfl (fun K hK => ?_) ?_
    · go_simp
      refine (do_r _ HNd.out H.out.fit.an ⟨fr, dst, fi⟩ hnl).mono ?_
      rintro e x6 ⟨v6, rfl, ho6, hv6, hk6⟩
      have HV6 := Lib.hid ho6
      have HP6 := Lib.hid hv6
      have HZ6 := Lib.hid hHeld.size
      have HXd := Lib.hid (HXd.out.keeps hk6)
      have hb := hHeld.trans (Mods.of_keeps (S := (· = m)) hk6) (fun y hy _ => hy)
      clear ho6 hv6 hk6
      obtain ⟨p6, c6, rfl, -, -⟩ := Frm.ownsRow_form HV6.out
      go_wp2_with fail
      refine hK.out _ _ hb (fun _ => ?_)
      clear hK K hHeld
      have hHeld : Mods (· = m) w4 x6 := hb
      clear hb
      try simp only [Act.put, List.setIfInBounds_toArray, List.set_cons_zero, List.set_cons_succ]
      refine wpAnyH_take (i := 7) (v := ?vv6) (by rfl) (by kernel_rfl) (by kernel_rfl) (by kernel_rfl) (by intro _ _ _ h; exact h) (Or.inl ⟨by kernel_rfl, ?hy6⟩) (by assumption) ?rest6
      case hy6 =>
        intro w' hSw
        have hSw : Mods (· = m) w4 w' := hSw
        clear hSw
        go_simp
        try with_reducible rfl
      change wpAnyH _ _ _ _ _ _ _ (Act.put _ (some 25) _) _
      try simp only [Act.put, List.setIfInBounds_toArray, List.set_cons_zero, List.set_cons_succ]
      refine wpAnyH_take (i := 8) (v := ?vv7) (by rfl) (by kernel_rfl) (by kernel_rfl) (by kernel_rfl) (by intro _ _ _ h; exact h) (Or.inl ⟨by kernel_rfl, ?hy7⟩) (by assumption) ?rest7
      case hy7 =>
        intro w' hSw
        have hSw : Mods (· = m) w4 w' := hSw
        clear hSw
        go_simp
        try with_reducible rfl
      change wpAnyH _ _ _ _ _ _ _ (Act.put _ (some 26) _) _
      try simp only [Act.put, List.setIfInBounds_toArray, List.set_cons_zero, List.set_cons_succ]
      refine wpAnyH_ready (rs := [9]) (by kernel_rfl) (by simp) ?_
      refine AllReadyH.cons (o := _) rfl (fun K hK => ?_) ?_
      · have hx : World.cell? x6 ⟨m, 1, none⟩ = some (Value.slice pn d.now.length cn) := by rw [HXd.out.cell]; rfl
        have hz : World.frozen? x6 ⟨m, 1, none⟩ = false := HXd.out.frozen 1
        go_simp
        have HX3 := Lib.hid (HXd.out.set_ 1 (.slice p6 (doR d.now ⟨fr, dst, fi⟩).length c6))
        have HVF := Lib.hid (NmsOwn.mods (T := (· = m)) HV6.out ((Mods.refl (· = m) _).setCell (p := ⟨m, 1, none⟩) (fun _ => rfl) (.slice p6 (doR d.now ⟨fr, dst, fi⟩).length c6)) (fun y hy e => Frm.ownsRow_ne HV6.out HXd.out (by decide) (by rw [hy, e])))
        have hb := hHeld.setCell (p := ⟨m, 1, none⟩) (fun _ => rfl) (.slice p6 (doR d.now ⟨fr, dst, fi⟩).length c6)
        clear hx hz HXd
        generalize World.setCell x6 ⟨m, 1, none⟩ (.slice p6 (doR d.now ⟨fr, dst, fi⟩).length c6) = xF at *
        refine hK.out _ _ hb (fun _ => ?_)
        clear hK K hHeld
        have hHeld : Mods (· = m) w4 xF := hb
        clear hb
        try simp only [Act.put, List.setIfInBounds_toArray, List.set_cons_zero, List.set_cons_succ]
        refine wpAnyH_done (by kernel_rfl) ?_ _
        refine NoPanic.normal ?_
        go_wp2_with fail
        go_end0
        have hMF := HM4.out.trans hHeld (fun y hy _ => hy)
        obtain ⟨r1, r2, r3, r4, r5⟩ := H.out.rows hMF
        have hTF := Frm.ownsRow_mods HO4.out hHeld (fun y hy e => Frm.ownsRow_ne HO4.out HB4.out (by decide) (by rw [hy, e]))
        have hs3 := (HK1.out.trans HK3.out).size
        have hs4 := HM4.out.size
        have hs6 := HZ6.out
        refine ⟨rfl, ⟨fv, .slice p6 (doR d.now ⟨fr, dst, fi⟩).length c6, sv, .slice p3 (n + 1) c3, fw, ?_⟩, hMF⟩
        exact
          { blk := HX3.out
            files := r1, len := H.out.len, waits := r2, now := HVF.out, sure := r4
            turns := by
              have h0 := ownsRow_low hTF (Nat.zero_le _)
              have e : (turnR d ⟨fr, dst, fi⟩).waits.length = n + 1 := by simp [turnR, HN.out]
              have e2 : (turnR d ⟨fr, dst, fi⟩).waits.flatMap trC = d.waits.flatMap trC ++ trC ⟨fr, dst, fi⟩ := by simp [turnR]
              rw [e, e2]
              exact h0
            sm := .inl H.out.sm
            sf := fun y hy => .inl (H.out.sf y hy)
            sn := fun y hy => by
              rcases HP6.out y hy with h | h
              · exact .inl (H.out.sn y h)
              · have hlt := (owns_ty HVF.out hy).lt
                exact .inr ⟨by omega, hlt⟩
            ss := fun y hy => .inl (H.out.ss y hy)
            st := fun y hy => by
              have hb := Frm.ownsRow_base hTF y hy
              have hlt := (owns_ty hTF hy).lt
              have := HK1.out.size
              exact .inr ⟨by omega, hlt⟩
            sw := fun v hv y hy => .inl (H.out.sw v hv y hy)
            fit := HF.out }
      exact AllReadyH.nil
    exact AllReadyH.nil
  exact AllReadyH.nil
end Rf
end Go.Proofs.Ytchjncnolmiejaa

/- The document's disk: Find, Unlink, SyncDir, Arm, Failing. -/
namespace Go.Proofs.Ytchjncnolmiejaa
open Go.RowKit
namespace Rf
open Vd
theorem doR_len (l : Nms) (t : RTurn) : (doR l t).length ≤ l.length + 1 := by
  unfold doR
  split
  · split
    · omega
    · split
      · have := without_le l t.frm; omega
      · have := without_le l t.frm
        have := put_len (withoutL l t.frm) t.dst ‹Nat›
        omega
  · split
    · omega
    · exact put_len _ _ _
theorem doR_asc {l : Nms} (h : AscN l) (t : RTurn) : AscN (doR l t) := by
  unfold doR
  split
  · split
    · exact h
    · split
      · exact asc_without h _
      · exact ascN_put (asc_without h _) _ _
  · split
    · exact h
    · exact ascN_put h _ _
theorem doR_in {l : Nms} (ha : AscN l) {n : Nat} (h : ∀ p ∈ l, p.2 < n) {t : RTurn} (ht : t.file < (n : Int)) : ∀ p ∈ doR l t, p.2 < n := by
  have hw : ∀ x, ∀ p ∈ withoutL l x, p.2 < n := fun x p hp => h p (List.mem_filter.1 hp).1
  unfold doR
  split
  · split
    · exact h
    · rename_i f hl
      have hf : f < n := h _ ((look_mem ha).1 hl)
      split
      · exact hw _
      · intro p hp
        rcases put_mem hp with hp | rfl
        · exact hw _ p hp
        · exact hf
  · split
    · exact h
    · intro p hp
      rcases put_mem hp with hp | rfl
      · exact h p hp
      · show t.file.toNat < n
        omega
theorem turn_fit {d : RDsk} {k : Nat} (h : RFit d k) {t : RTurn} (ht : t.file < (d.files.length : Int)) : RFit (turnR d t) (k + 1) :=
  { h.more (Nat.le_succ k) with
    n := by have := doR_len d.now t; have := h.n; show (doR d.now t).length ≤ _; omega
    w := by have := h.w; simp [turnR]; omega
    an := doR_asc h.an t
    is := doR_in h.an h.is ht }
section
variable {w : World} {M : Nat → Prop} {m : Nat} {d : RDsk} {k : Nat}
/-- what a call makes of the document's disk -/
def RDid (W : World) (M : Nat → Prop) (m : Nat) (r : RDsk × Int) (k : Nat) (e : Ending) (w' : World) : Prop := e = .returned (.int .i64 r.2) ∧ RefAt w' (More M W w') m r.1 k ∧ Mods (· = m) W w'
theorem rfind_r (h : RefAt w M m d k) (x : Str) : Calls Try.prog 112 #[.pointer (some ⟨m, 0, none⟩), .string (bstr x)] w fun e w' => e = .returned (.int .i64 (findR d.now x)) ∧ w = w' := by
  obtain ⟨fv, nv, sv, wv, fw, h⟩ := h
  have HC := Lib.hid (find_r w (NmsOwn.at_ h.now) x)
  obtain ⟨-, c1, -⟩ := h.cells
  obtain ⟨pn, cn, rfl, -, -⟩ := Frm.ownsRow_form h.now
  clear h
  go_enter Try.func112, Try.ntmps112
  go_wp2_with fail
  refine HC.out.mono ?_
  rintro e w2 ⟨rfl, rfl⟩
  go_wp2_with fail
  go_ret
  exact ⟨rfl, rfl⟩
theorem beginR_files (d : RDsk) : (beginR d).1.files = d.files ∧ (beginR d).1.now = d.now ∧ (beginR d).1.sure = d.sure ∧ (beginR d).1.waits = d.waits ∧ (beginR d).1.cap = d.cap := by
  unfold beginR
  split
  · exact ⟨rfl, rfl, rfl, rfl, rfl⟩
  · split
    · exact ⟨rfl, rfl, rfl, rfl, rfl⟩
    · split <;> exact ⟨rfl, rfl, rfl, rfl, rfl⟩
theorem Mods.more_of {w1 w2 : World} (h : Mods (· = m) w w1) (h2 : RefAt w2 (More M w1 w2) m d k) : RefAt w2 (More M w w2) m d k := h2.wide (fun y hy => hy.imp id (fun hh => ⟨Nat.le_trans h.size hh.1, hh.2⟩))
set_option maxRecDepth 100000 in
set_option maxHeartbeats 2000000 in
theorem runlink_r (h : RefAt w M m d k) (hk : k ≤ 100000) (x : Str) : Calls Try.prog 62 #[.pointer (some ⟨m, 0, none⟩), .string (bstr x)] w (RDid w M m (unlinkR d x) (k + 2)) := by
  have HB := Lib.hid (begin_r w h (by omega))
  have HX0 : Hid (unlinkR d x = if (beginR d).2 ≠ 0 then beginR d else if (Vd.look d.now x).isSome then (turnR (beginR d).1 ⟨x, [], -1⟩, 0) else ((beginR d).1, 7)) := Lib.hid rfl
  have HFI := Lib.hid (beginR_files d)
  clear h
  unfold RDid
  generalize beginR d = r at *
  obtain ⟨d1, er⟩ := r
  simp only at HB HX0 HFI
  go_enter Try.func62, Try.ntmps62
  go_wp2_with fail
  refine HB.out.mono ?_
  rintro e w1 ⟨rfl, h1, hm1⟩
  have H1 := Lib.hid h1
  have HM1 := Lib.hid hm1
  clear h1 hm1 HB
  by_cases he : er = 0
  · subst he
    have HX1 := Lib.hid (HX0.out.trans (if_neg (by simp)))
    have HF := Lib.hid (rfind_r H1.out x)
    have HFR : Hid (findR d1.now x = match Vd.look d1.now x with | none => -1 | some i => (i : Int)) := Lib.hid rfl
    cases hl : Vd.look d1.now x with
    | none =>
      have HX := Lib.hid (HX1.out.trans (if_neg (by rw [← HFI.out.2.1, hl]; simp)))
      have hfr : findR d1.now x = -1 := by rw [HFR.out, hl]
      rw [hfr] at HF
      clear hfr hl HFR
      go_wp2_with fail
      refine HF.out.mono ?_
      rintro e w2 ⟨rfl, rfl⟩
      go_wp2_with fail
      go_ret
      rw [HX.out]
      exact ⟨rfl, (H1.out.wide (fun y hy => .inl hy)).more (by omega), HM1.out⟩
    | some i =>
      have HX := Lib.hid (HX1.out.trans (if_pos (by rw [← HFI.out.2.1, hl]; rfl)))
      have hfr : findR d1.now x = (i : Int) := by rw [HFR.out, hl]
      rw [hfr] at HF
      have HT := Lib.hid (turn_r w1 H1.out (by omega) ⟨x, [], -1⟩ (by
        obtain ⟨_, _, _, _, _, hh⟩ := H1.out
        exact turn_fit hh.fit (by show (-1 : Int) < _; omega)))
      unfold trA at HT
      clear hfr hl HFR
      go_wp2_with fail
      refine HF.out.mono ?_
      rintro e w2 ⟨rfl, rfl⟩
      go_wp2_with fail
      refine HT.out.mono ?_
      rintro e w2 ⟨rfl, h2, hm2⟩
      have H2 := Lib.hid h2
      have HM2 := Lib.hid hm2
      clear h2 hm2 HT HF
      go_wp2_with fail
      go_ret
      rw [HX.out]
      exact ⟨rfl, Mods.more_of HM1.out H2.out, HM1.out.trans HM2.out (fun y hy _ => hy)⟩
  · have HX := Lib.hid (HX0.out.trans (if_pos he))
    have he' : (er != 0) = true := by simp [he]
    clear he
    go_wp2_with fail
    go_ret
    rw [HX.out]
    exact ⟨rfl, (H1.out.wide (fun y hy => .inl hy)).more (by omega), HM1.out⟩
set_option maxRecDepth 100000 in
set_option maxHeartbeats 2000000 in
theorem rsyncDir_r (h : RefAt w M m d k) (hk : k ≤ 100000) : Calls Try.prog 63 #[.pointer (some ⟨m, 0, none⟩)] w (RDid w M m (syncDirR d) (k + 1)) := by
  have HB := Lib.hid (begin_r w h (by omega))
  have HX0 : Hid (syncDirR d = if (beginR d).2 ≠ 0 then beginR d else ({ (beginR d).1 with sure := d.now, waits := [] }, 0)) := Lib.hid rfl
  have HFI := Lib.hid (beginR_files d)
  clear h
  unfold RDid
  generalize beginR d = r at *
  obtain ⟨d1, er⟩ := r
  simp only at HB HX0 HFI
  go_enter Try.func63, Try.ntmps63
  go_wp2_with fail
  refine HB.out.mono ?_
  rintro e w1 ⟨rfl, h1, hm1⟩
  have H1 := Lib.hid h1
  have HM1 := Lib.hid hm1
  clear h1 hm1 HB
  by_cases he : er = 0
  · subst he
    have HX := Lib.hid (HX0.out.trans (if_neg (by simp)))
    obtain ⟨fv, nv, sv, wv, fw, h1⟩ := H1.out
    have HI := Lib.hid h1
    obtain ⟨-, c1, c2, c3, -⟩ := h1.cells
    have z2 : w1.frozen? ⟨m, 2, none⟩ = false := h1.blk.frozen _
    have z3 : w1.frozen? ⟨m, 3, none⟩ = false := h1.blk.frozen _
    obtain ⟨pn, cn, rfl, -, -⟩ := Frm.ownsRow_form h1.now
    clear h1
    go_wp2_with fail
    go_ret
    have hM := ((Mods.refl (· = m) w1).setCell (p := ⟨m, 2, none⟩) (fun _ => rfl) (.slice pn d1.now.length cn)).setCell (p := ⟨m, 3, none⟩) (fun _ => rfl) (.slice none 0 0)
    obtain ⟨r1, r2, r3, r4, r5⟩ := HI.out.rows hM
    rw [HX.out]
    refine ⟨rfl, ⟨fv, .slice pn d1.now.length cn, .slice pn d1.now.length cn, .slice none 0 0, fw, ?_⟩, HM1.out.trans hM (fun y hy _ => hy)⟩
    rw [← HFI.out.2.1]
    exact
      { blk := (HI.out.blk.set_ 2 _).set_ 3 _
        files := r1, len := HI.out.len, waits := r2, now := r3, sure := r3, turns := World.ownsRow_nil _ _ _ 3
        sm := .inl HI.out.sm, sf := fun y hy => .inl (HI.out.sf y hy), sn := fun y hy => .inl (HI.out.sn y hy), ss := fun y hy => .inl (HI.out.sn y hy)
        st := fun y hy => by simp [Value.ownBlock] at hy
        sw := fun v hv y hy => .inl (HI.out.sw v hv y hy)
        fit := { HI.out.fit with s := HI.out.fit.n, w := Nat.zero_le _, au := HI.out.fit.an } }
  · have HX := Lib.hid (HX0.out.trans (if_pos he))
    have he' : (er != 0) = true := by simp [he]
    clear he
    go_wp2_with fail
    go_ret
    rw [HX.out]
    exact ⟨rfl, H1.out.wide (fun y hy => .inl hy), HM1.out⟩
def armR (n e : Int) : Int := if n < 0 ∨ e = 0 then -1 else n
theorem arm_r (n e : Int) : Calls Try.prog 66 #[.int .i64 n, .int .i64 e] w fun r w' => r = .returned (.int .i64 (armR n e)) ∧ w = w' := by
  by_cases h1 : n < 0
  · have HX : Hid (armR n e = -1) := Lib.hid (if_pos (.inl h1))
    go_enter Try.func66, Try.ntmps66
    go_wp2_with fail
    go_ret
    exact ⟨by rw [HX.out]; rfl, rfl⟩
  · by_cases h2 : e = 0
    · subst h2
      have HX : Hid (armR n 0 = -1) := Lib.hid (if_pos (.inr rfl))
      go_enter Try.func66, Try.ntmps66
      go_wp2_with fail
      go_ret
      exact ⟨by rw [HX.out]; rfl, rfl⟩
    · have HX : Hid (armR n e = n) := Lib.hid (if_neg (by omega))
      have e1 : (e == 0) = false := by simp [h2]
      clear h2
      go_enter Try.func66, Try.ntmps66
      go_wp2_with fail
      go_ret
      exact ⟨by rw [HX.out]; rfl, rfl⟩
def failingR (n e : Int) : Int := if e = 11 then -1 else armR n e
theorem failing_r (n e : Int) : Calls Try.prog 65 #[.int .i64 n, .int .i64 e] w fun r w' => r = .returned (.int .i64 (failingR n e)) ∧ w = w' := by
  have HA := Lib.hid (arm_r (w := w) n e)
  by_cases h : e = 11
  · have HX : Hid (failingR n e = -1) := Lib.hid (if_pos h)
    have e1 : (e == 11) = true := by simp [h]
    clear h
    go_enter Try.func65, Try.ntmps65
    go_wp2_with fail
    go_ret
    exact ⟨by rw [HX.out]; rfl, rfl⟩
  · have HX : Hid (failingR n e = armR n e) := Lib.hid (if_neg h)
    have e1 : (e == 11) = false := by simp [h]
    clear h
    generalize armR n e = r at *
    go_enter Try.func65, Try.ntmps65
    go_wp2_with fail
    refine HA.out.mono ?_
    rintro e2 w2 ⟨rfl, rfl⟩
    go_wp2_with fail
    go_ret
    exact ⟨by rw [HX.out]; rfl, rfl⟩
end
end Rf
end Go.Proofs.Ytchjncnolmiejaa

/- The document's disk: Name. -/
namespace Go.Proofs.Ytchjncnolmiejaa
open Go.RowKit
namespace Rf
open Vd
theorem letter_fin : ∀ n : Fin 256, letterB (UInt8.ofNat n.val) = (decide (97 ≤ n.val ∧ n.val ≤ 122) || decide (48 ≤ n.val ∧ n.val ≤ 57) || decide (n.val = 46) || decide (n.val = 45)) := by decide +kernel
theorem letter_nat (c : UInt8) : letterB c = (decide (97 ≤ c.toNat ∧ c.toNat ≤ 122) || decide (48 ≤ c.toNat ∧ c.toNat ≤ 57) || decide (c.toNat = 46) || decide (c.toNat = 45)) := by
  have := letter_fin ⟨c.toNat, c.toNat_lt⟩
  simpa using this
set_option maxRecDepth 100000 in
set_option maxHeartbeats 4000000 in
theorem name_r (w : World) (l : Str) (hn : l.length ≤ 9000000000000000000) : Calls Try.prog 51 #[.string (bstr l)] w fun e w' => e = .returned (.bool (namedB l)) ∧ w = w' := by
  have HSZ := Lib.hid (bstr_size l)
  have HGE := Lib.hid (fun (j : Nat) (h : j < (bstr l).size) => show (bstr l)[j] = l[j]'(by rw [bstr_size] at h; exact h) from rfl)
  obtain ⟨n, hnn⟩ : ∃ n, n = (bstr l).size := ⟨_, rfl⟩
  have hnl : n = l.length := by rw [hnn, HSZ.out]
  by_cases h0 : n < 1
  · have HX := Lib.hid (show namedB l = false from by
      have : l = [] := List.eq_nil_of_length_eq_zero (by omega)
      rw [this]; rfl)
    have h0' : ((bstr l).size : Int) < 1 := by rw [← hnn]; omega
    go_enter Try.func51, Try.ntmps51
    go_wp2_with fail
    go_ret
    exact ⟨by rw [HX.out]; rfl, rfl⟩
  · by_cases h32 : 32 < n
    · have HX := Lib.hid (show namedB l = false from by
        unfold namedB
        rw [decide_eq_false (show ¬ l.length ≤ 32 by omega), Bool.and_false])
      have h0' : ¬ ((bstr l).size : Int) < 1 := by rw [← hnn]; omega
      have h1' : (32 : Int) < ((bstr l).size : Int) := by rw [← hnn]; omega
      go_enter Try.func51, Try.ntmps51
      go_wp2_with fail
      go_ret
      exact ⟨by rw [HX.out]; rfl, rfl⟩
    · have h0' : ¬ ((bstr l).size : Int) < 1 := by rw [← hnn]; omega
      have h1' : ¬ (32 : Int) < ((bstr l).size : Int) := by rw [← hnn]; omega
      have HNL := Lib.hid (And.intro hnl hnn)
      clear hnl hnn
      go_enter Try.func51, Try.ntmps51
      go_wp2_with fail
      go_loopw [3] (fun i wr => ∃ j : Nat, i = .int .i64 (j : Int) ∧ j ≤ (bstr l).size ∧ Hid ((l.take j).all letterB = true) ∧ w = wr) (fun i _ => (bstr l).size - (RowKit.intOf i).toNat)
      case atStart => exact ⟨0, rfl, Nat.zero_le _, Lib.hid rfl, rfl⟩
      case round =>
        obtain ⟨j, rfl, hj, HA, rfl⟩ := hrel
        by_cases hlt : j < (bstr l).size
        · have hll : j < l.length := by rw [← HSZ.out]; exact hlt
          have HLN := Lib.hid (letter_nat l[j])
          have HNO := Lib.hid (named_not (j := j) hll)
          have HLT := Lib.hid (letters_take hll HA.out)
          have hge := HGE.out j hlt
          have hcl := l[j].toNat_lt
          have hlt' : (j : Int) < ((bstr l).size : Int) := by omega
          obtain ⟨cn, hcn⟩ : ∃ cn, cn = ((bstr l)[j]'hlt).toNat := ⟨_, rfl⟩
          have hcn2 : cn = l[j].toNat := by rw [hcn, hge]
          rw [← hcn2] at HLN hcl
          clear hcn2 hge
          have hlet : (97 ≤ cn ∧ cn ≤ 122) ∨ (48 ≤ cn ∧ cn ≤ 57) ∨ cn = 46 ∨ cn = 45 ∨ cn < 45 ∨ cn = 47 ∨ (58 ≤ cn ∧ cn < 97) ∨ 122 < cn := by omega
          go_upto_region 7 with fail
          rw [← hcn]
          clear hcn
          rcases hlet with hlet | hlet | hlet | hlet | hlet | hlet | hlet | hlet
          · have HT := Lib.hid (HLT.out (by rw [HLN.out]; simp; omega))
            clear HLT HLN HNO
            go_wp2_with fail
            go_roundw
            case rel => exact ⟨j + 1, by simp, by omega, HT, trivial⟩
            case measure =>
              simp only [RowKit.intOf]
              omega
          · have HT := Lib.hid (HLT.out (by rw [HLN.out]; simp; omega))
            clear HLT HLN HNO
            go_wp2_with fail
            go_roundw
            case rel => exact ⟨j + 1, by simp, by omega, HT, trivial⟩
            case measure =>
              simp only [RowKit.intOf]
              omega
          · have HT := Lib.hid (HLT.out (by rw [HLN.out]; simp; omega))
            clear HLT HLN HNO
            go_wp2_with fail
            go_roundw
            case rel => exact ⟨j + 1, by simp, by omega, HT, trivial⟩
            case measure =>
              simp only [RowKit.intOf]
              omega
          · have HT := Lib.hid (HLT.out (by rw [HLN.out]; simp; omega))
            clear HLT HLN HNO
            go_wp2_with fail
            go_roundw
            case rel => exact ⟨j + 1, by simp, by omega, HT, trivial⟩
            case measure =>
              simp only [RowKit.intOf]
              omega
          · have HT := Lib.hid (HNO.out (by rw [HLN.out]; simp; omega))
            clear HLT HLN HNO
            have q1 : decide ((97 : Int) ≤ (cn : Int)) = false := by simp; omega
            have q2 : decide ((cn : Int) ≤ 122) = true := by simp; omega
            have q3 : decide ((48 : Int) ≤ (cn : Int)) = false := by simp; omega
            have q4 : decide ((cn : Int) ≤ 57) = true := by simp; omega
            have q5 : ((cn : Int) != 46) = true := by simp; omega
            have q6 : ((cn : Int) != 45) = true := by simp; omega
            go_wp2_with fail
            go_ret
            exact ⟨by rw [HT.out]; rfl, rfl⟩
          · have HT := Lib.hid (HNO.out (by rw [HLN.out]; simp; omega))
            clear HLT HLN HNO
            have q1 : decide ((97 : Int) ≤ (cn : Int)) = false := by simp; omega
            have q2 : decide ((cn : Int) ≤ 122) = true := by simp; omega
            have q3 : decide ((48 : Int) ≤ (cn : Int)) = false := by simp; omega
            have q4 : decide ((cn : Int) ≤ 57) = true := by simp; omega
            have q5 : ((cn : Int) != 46) = true := by simp; omega
            have q6 : ((cn : Int) != 45) = true := by simp; omega
            go_wp2_with fail
            go_ret
            exact ⟨by rw [HT.out]; rfl, rfl⟩
          · have HT := Lib.hid (HNO.out (by rw [HLN.out]; simp; omega))
            clear HLT HLN HNO
            have q1 : decide ((97 : Int) ≤ (cn : Int)) = false := by simp; omega
            have q2 : decide ((cn : Int) ≤ 122) = true := by simp; omega
            have q3 : decide ((48 : Int) ≤ (cn : Int)) = true := by simp; omega
            have q4 : decide ((cn : Int) ≤ 57) = false := by simp; omega
            have q5 : ((cn : Int) != 46) = true := by simp; omega
            have q6 : ((cn : Int) != 45) = true := by simp; omega
            go_wp2_with fail
            go_ret
            exact ⟨by rw [HT.out]; rfl, rfl⟩
          · have HT := Lib.hid (HNO.out (by rw [HLN.out]; simp; omega))
            clear HLT HLN HNO
            have q1 : decide ((97 : Int) ≤ (cn : Int)) = true := by simp; omega
            have q2 : decide ((cn : Int) ≤ 122) = false := by simp; omega
            have q3 : decide ((48 : Int) ≤ (cn : Int)) = true := by simp; omega
            have q4 : decide ((cn : Int) ≤ 57) = false := by simp; omega
            have q5 : ((cn : Int) != 46) = true := by simp; omega
            have q6 : ((cn : Int) != 45) = true := by simp; omega
            go_wp2_with fail
            go_ret
            exact ⟨by rw [HT.out]; rfl, rfl⟩
        · have hjl : j = l.length := by rw [← HSZ.out]; omega
          have HX := Lib.hid (show namedB l = true from by
            have h1 := HA.out
            rw [hjl, List.take_length] at h1
            have h2 := HNL.out.1
            unfold namedB
            rw [h1, decide_eq_true (show l.length ≤ 32 by omega)]
            cases l with
            | nil => simp at h2; omega
            | cons a l => rfl)
          have hlt' : decide ((j : Int) < ((bstr l).size : Int)) = false := by simp; omega
          clear HA hjl
          go_wp2_with fail
          go_ret
          exact ⟨by rw [HX.out]; rfl, rfl⟩
end Rf
end Go.Proofs.Ytchjncnolmiejaa

/- The document's disk: Rename. -/
namespace Go.Proofs.Ytchjncnolmiejaa
open Go.RowKit
namespace Rf
open Vd
section
variable {w : World} {M : Nat → Prop} {m : Nat} {d : RDsk} {k : Nat}
set_option maxRecDepth 100000 in
set_option maxHeartbeats 2000000 in
theorem rrename_r (h : RefAt w M m d k) (hk : k ≤ 100000) (x y : Str) (hy : y.length ≤ 9000000000000000000) : Calls Try.prog 60 #[.pointer (some ⟨m, 0, none⟩), .string (bstr x), .string (bstr y)] w (RDid w M m (renameR d x y) (k + 2)) := by
  have HB := Lib.hid (begin_r w h (by omega))
  have HX0 : Hid (renameR d x y = if (beginR d).2 ≠ 0 then beginR d else if namedB y = false then ((beginR d).1, 3) else if (Vd.look d.now x).isSome then (turnR (beginR d).1 ⟨x, y, -1⟩, 0) else ((beginR d).1, 7)) := Lib.hid rfl
  have HFI := Lib.hid (beginR_files d)
  clear h
  unfold RDid
  generalize beginR d = r at *
  obtain ⟨d1, er⟩ := r
  simp only at HB HX0 HFI
  go_enter Try.func60, Try.ntmps60
  go_wp2_with fail
  refine HB.out.mono ?_
  rintro e w1 ⟨rfl, h1, hm1⟩
  have H1 := Lib.hid h1
  have HM1 := Lib.hid hm1
  clear h1 hm1 HB
  by_cases he : er = 0
  · subst he
    have HXN := Lib.hid (HX0.out.trans (if_neg (by simp)))
    have HNM := Lib.hid (name_r w1 y hy)
    cases hny : namedB y with
    | false =>
      have HX := Lib.hid (HXN.out.trans (if_pos hny))
      rw [hny] at HNM
      clear hny HX0
      go_wp2_with fail
      refine HNM.out.mono ?_
      rintro e w2 ⟨rfl, rfl⟩
      go_wp2_with fail
      go_ret
      rw [HX.out]
      exact ⟨rfl, (H1.out.wide (fun y hy => .inl hy)).more (by omega), HM1.out⟩
    | true =>
    have HX1 := Lib.hid (HXN.out.trans (if_neg (by simp [hny])))
    rw [hny] at HNM
    clear hny
    have HF := Lib.hid (rfind_r H1.out x)
    have HFR : Hid (findR d1.now x = match Vd.look d1.now x with | none => -1 | some i => (i : Int)) := Lib.hid rfl
    cases hl : Vd.look d1.now x with
    | none =>
      have HX := Lib.hid (HX1.out.trans (if_neg (by rw [← HFI.out.2.1, hl]; simp)))
      have hfr : findR d1.now x = -1 := by rw [HFR.out, hl]
      rw [hfr] at HF
      clear hfr hl HFR
      go_wp2_with fail
      refine HNM.out.mono ?_
      rintro e w2 ⟨rfl, rfl⟩
      go_wp2_with fail
      refine HF.out.mono ?_
      rintro e w2 ⟨rfl, rfl⟩
      go_wp2_with fail
      go_ret
      rw [HX.out]
      exact ⟨rfl, (H1.out.wide (fun y hy => .inl hy)).more (by omega), HM1.out⟩
    | some i =>
      have HX := Lib.hid (HX1.out.trans (if_pos (by rw [← HFI.out.2.1, hl]; rfl)))
      have hfr : findR d1.now x = (i : Int) := by rw [HFR.out, hl]
      rw [hfr] at HF
      have HT := Lib.hid (turn_r w1 H1.out (by omega) ⟨x, y, -1⟩ (by
        obtain ⟨_, _, _, _, _, hh⟩ := H1.out
        exact turn_fit hh.fit (by show (-1 : Int) < _; omega)))
      unfold trA at HT
      clear hfr hl HFR
      go_wp2_with fail
      refine HNM.out.mono ?_
      rintro e w2 ⟨rfl, rfl⟩
      go_wp2_with fail
      refine HF.out.mono ?_
      rintro e w2 ⟨rfl, rfl⟩
      go_wp2_with fail
      refine HT.out.mono ?_
      rintro e w2 ⟨rfl, h2, hm2⟩
      have H2 := Lib.hid h2
      have HM2 := Lib.hid hm2
      clear h2 hm2 HT HF
      go_wp2_with fail
      go_ret
      rw [HX.out]
      exact ⟨rfl, Mods.more_of HM1.out H2.out, HM1.out.trans HM2.out (fun y hy _ => hy)⟩
  · have HX := Lib.hid (HX0.out.trans (if_pos he))
    have he' : (er != 0) = true := by simp [he]
    clear he
    go_wp2_with fail
    go_ret
    rw [HX.out]
    exact ⟨rfl, (H1.out.wide (fun y hy => .inl hy)).more (by omega), HM1.out⟩
end
end Rf
end Go.Proofs.Ytchjncnolmiejaa

/- The document's disk: Create. -/
namespace Go.Proofs.Ytchjncnolmiejaa
open Go.RowKit
namespace Rf
open Vd
theorem filok : ElemOkS Try.prog 109 117 3 56 := elemOkS (z := .agg #[.string (bstr []), .string (bstr []), .slice none 0 0]) Try.underlying109 (by kernel_rfl) rfl
theorem zero_row {w : World} {base b : Nat} {e : TypeId} {C : Nat} (hb : b = w.heap.size) (hbase : base ≤ b) : (w.alloc (.cells #[] e)).ownsRow base e C (.slice (some ⟨b, 0, none⟩) 0 0) 0 [] := by
  subst hb
  refine ⟨by simp, .inr ⟨w.heap.size, 0, #[], rfl, hbase, ?_, Nat.le_refl _, Nat.zero_le _, by simp, by simp⟩⟩
  show (w.heap.push _)[w.heap.size]? = _
  simp
theorem filC_flat {l : List (RFil × Value)} (h : ∀ p ∈ l, p.2.oneCell' = true) : ∀ u ∈ l.flatMap filC, u.oneCell' = true := fun u hu => by
  obtain ⟨p, hp, hq⟩ := List.mem_flatMap.1 hu
  simp [filC] at hq
  rcases hq with rfl | rfl | rfl
  · rfl
  · rfl
  · exact h p hp
def bornR (d : RDsk) : RDsk := { d with files := d.files ++ [filR0] }
theorem born_fit {d : RDsk} {k : Nat} (h : RFit d k) : RFit (bornR d) (k + 1) :=
  { h.more (Nat.le_succ k) with
    f := by have := h.f; simp [bornR]; omega
    p := fun x hx => by
      rcases List.mem_append.1 hx with hx | hx
      · exact Nat.le_succ_of_le (h.p x hx)
      · simp at hx; subst hx; exact Nat.zero_le _
    b := fun x hx => by
      rcases List.mem_append.1 hx with hx | hx
      · exact h.b x hx
      · simp at hx; subst hx; exact ⟨Nat.zero_le _, Nat.zero_le _⟩
    is := fun p hp => by have := h.is p hp; simp [bornR]; omega }
section
variable {w : World} {M : Nat → Prop} {m : Nat} {d : RDsk} {k : Nat}
theorem RefIn.one {fv nv sv wv : Value} {fw : List Value} (h : RefIn w M m fv nv sv wv fw d k) : ∀ p ∈ d.files.zip fw, p.2.oneCell' = true := fun p hp => by
  have h2 := (List.of_mem_zip hp).2
  obtain ⟨i, hi, he⟩ := List.mem_iff_getElem.1 h2
  obtain ⟨po, c, hv, -, -⟩ := Frm.ownsRow_form (h.waits i hi (by rw [← h.len]; exact hi))
  rw [← he, hv]
  rfl
set_option maxRecDepth 100000 in
set_option maxHeartbeats 4000000 in
theorem rcreate_r (h : RefAt w M m d k) (hk : k ≤ 100000) (x : Str) (hx : x.length ≤ 9000000000000000000) : Calls Try.prog 54 #[.pointer (some ⟨m, 0, none⟩), .string (bstr x)] w (RDid w M m (createR d x) (k + 3)) := by
  have HB := Lib.hid (begin_r w h (by omega))
  have HX0 : Hid (createR d x = if (beginR d).2 ≠ 0 then beginR d else if namedB x = false then ((beginR d).1, 3) else if (Vd.look d.now x).isSome then ((beginR d).1, 8) else if d.now.length = 1024 then ((beginR d).1, 6) else (turnR { (beginR d).1 with files := d.files ++ [filR0] } ⟨[], x, d.files.length⟩, 0)) := Lib.hid rfl
  have HFI := Lib.hid (beginR_files d)
  clear h
  unfold RDid
  generalize beginR d = r at *
  obtain ⟨d1, er⟩ := r
  simp only at HB HX0 HFI
  obtain ⟨f1, f2, -⟩ := HFI.out
  rw [← f1, ← f2] at HX0
  clear f1 f2
  go_enter Try.func54, Try.ntmps54
  go_wp2_with fail
  refine HB.out.mono ?_
  rintro e w1 ⟨rfl, h1, hm1⟩
  have H1 := Lib.hid h1
  have HM1 := Lib.hid hm1
  clear h1 hm1 HB
  have HOUT := Lib.hid (show RefAt w1 (More M w w1) m d1 (k + 3) from (H1.out.wide (fun y hy => .inl hy)).more (by omega))
  by_cases he : er = 0
  · subst he
    have HXN := Lib.hid (HX0.out.trans (if_neg (by simp)))
    have HNM := Lib.hid (name_r w1 x hx)
    cases hny : namedB x with
    | false =>
      have HX := Lib.hid (HXN.out.trans (if_pos hny))
      rw [hny] at HNM
      clear hny HX0
      go_wp2_with fail
      refine HNM.out.mono ?_
      rintro e w2 ⟨rfl, rfl⟩
      go_wp2_with fail
      go_ret
      rw [HX.out]
      exact ⟨rfl, HOUT.out, HM1.out⟩
    | true =>
      have HX1 := Lib.hid (HXN.out.trans (if_neg (by simp [hny])))
      rw [hny] at HNM
      have HF := Lib.hid (rfind_r H1.out x)
      have HFR : Hid (findR d1.now x = match Vd.look d1.now x with | none => -1 | some i => (i : Int)) := Lib.hid rfl
      clear hny
      cases hl : Vd.look d1.now x with
      | some i =>
        have HX := Lib.hid (HX1.out.trans (if_pos (by rw [hl]; rfl)))
        have hfr : findR d1.now x = (i : Int) := by rw [HFR.out, hl]
        rw [hfr] at HF
        clear hfr hl HFR
        go_wp2_with fail
        refine HNM.out.mono ?_
        rintro e w2 ⟨rfl, rfl⟩
        go_wp2_with fail
        refine HF.out.mono ?_
        rintro e w2 ⟨rfl, rfl⟩
        go_wp2_with fail
        go_ret
        rw [HX.out]
        exact ⟨rfl, HOUT.out, HM1.out⟩
      | none =>
        have HX2 := Lib.hid (HX1.out.trans (if_neg (by rw [hl]; simp)))
        have hfr : findR d1.now x = -1 := by rw [HFR.out, hl]
        rw [hfr] at HF
        obtain ⟨fv, nv, sv, wv, fw, hi⟩ := H1.out
        have HI := Lib.hid hi
        obtain ⟨c0, c1, -⟩ := hi.cells
        obtain ⟨pn, cn, rfl, -, -⟩ := Frm.ownsRow_form hi.now
        obtain ⟨pf, cf, rfl, -, -⟩ := Frm.ownsRow_form hi.files
        clear hfr hl HFR hi
        by_cases hfull : d1.now.length = 1024
        · have HX := Lib.hid (HX2.out.trans (if_pos hfull))
          have ht : ((d1.now.length : Int) == 1024) = true := by simp [hfull]
          clear hfull
          go_wp2_with fail
          refine HNM.out.mono ?_
          rintro e w2 ⟨rfl, rfl⟩
          go_wp2_with fail
          refine HF.out.mono ?_
          rintro e w2 ⟨rfl, rfl⟩
          go_wp2_with fail
          go_ret
          rw [HX.out]
          exact ⟨rfl, HOUT.out, HM1.out⟩
        · have HX := Lib.hid (HX2.out.trans (if_neg hfull))
          have ht : ((d1.now.length : Int) == 1024) = false := by simp; omega
          clear hfull
          go_wp2_with fail
          refine HNM.out.mono ?_
          rintro e w2 ⟨rfl, rfl⟩
          go_wp2_with fail
          refine HF.out.mono ?_
          rintro e w2 ⟨rfl, rfl⟩
          obtain ⟨n, hn⟩ : ∃ n, n = d1.files.length := ⟨_, rfl⟩
          have hnk : n ≤ 200000 := by have := HI.out.fit.f; omega
          have HN := Lib.hid hn
          have HFL := Lib.hid (show w1.ownsRow 0 117 3 (.slice pf n cf) n ((d1.files.zip fw).flatMap filC) from by rw [hn]; exact HI.out.files)
          have HBL := Lib.hid (show Blk w1 m 113 (rdA d1 (.slice pf n cf) (.slice pn d1.now.length cn) sv wv) from by rw [hn]; exact HI.out.blk)
          rw [← hn] at c0
          have c0' := keep1 ((Keeps.refl w1).alloc (.cells #[] 117)) c0
          clear hn HF HNM
          go_upto_region 11 with (first
            | (at_builtin; refine wpList_apps (base := w1.heap.size) filok (by decide) rfl _ _ rfl (.slice (some ⟨w1.heap.size, 0, none⟩) 0 0) (.slice pf n cf) 0 n [] ((d1.files.zip fw).flatMap filC) rfl rfl (zero_row rfl (Nat.le_refl _)) (rowS_of (Frm.ownsRow_keeps HFL.out ((Keeps.refl _).alloc _))) (filC_flat HI.out.one) (by omega) (by decide) (by rw [Frm.alloc_size]; omega) ?_; intro v3 w3 ho3 hg3 hf3; obtain ⟨p3, c3, rfl, -, -⟩ := Frm.ownsRow_form ho3; have HO3 := Lib.hid (show w3.ownsRow w1.heap.size 117 3 (.slice p3 n c3) n ((d1.files.zip fw).flatMap filC) from by simpa using ho3); have HK3 := Lib.hid (show Keeps w1 w3 from ((Keeps.refl w1).alloc _).grown hg3 (fun k hk => by simp [Value.ownBlock] at hk; omega)); have hs3 := HK3.out.size; clear ho3 hg3 hf3)
            | (at_builtin; go_loud (refine wpList_apps (base := w1.heap.size) filok (by decide) rfl _ _ rfl (.slice p3 n c3) (.slice (some ⟨w3.heap.size, 0, none⟩) 1 1) n 1 ((d1.files.zip fw).flatMap filC) [.string (bstr []), .string (bstr []), .slice none 0 0] rfl rfl (Frm.ownsRow_keeps HO3.out ((Keeps.refl _).alloc _)) (Frm.rowS_lit rfl rfl rfl) (by simp [Value.oneCell']) (by omega) (by decide) (by rw [Frm.alloc_size]; omega) ?_; intro v4 w4 ho4 hg4 hf4; obtain ⟨p4, c4, rfl, -, -⟩ := Frm.ownsRow_form ho4; have HK4 := Lib.hid (show Keeps w1 w4 from (HK3.out.alloc _).grown hg4 (Frm.ownsRow_base HO3.out)); have HB4 := Lib.hid (HBL.out.keeps HK4.out); have hc4 : w4.cell? ⟨m, 0, none⟩ = some (.slice pf n cf) := by { rw [HB4.out.cell]; rfl }; have hz4 : w4.frozen? ⟨m, 0, none⟩ = false := HB4.out.frozen _; have HO4 := Lib.hid ho4; clear ho4 hg4 hf4)))
          have HM5 := Lib.hid ((Mods.of_keeps (S := (· = m)) HK4.out).setCell (p := ⟨m, 0, none⟩) (fun _ => rfl) (.slice p4 (n + 1) c4))
          have HM45 := Lib.hid ((Mods.refl (· = m) w4).setCell (p := ⟨m, 0, none⟩) (fun _ => rfl) (.slice p4 (n + 1) c4))
          have HB5 := Lib.hid (show Blk (w4.setCell ⟨m, 0, none⟩ (.slice p4 (n + 1) c4)) m 113 (rdA (bornR d1) (.slice p4 (n + 1) c4) (.slice pn d1.now.length cn) sv wv) from HB4.out.set_ 0 _)
          have HO5 := Lib.hid (Frm.ownsRow_mods HO4.out HM45.out (fun y hy e => Frm.ownsRow_ne HO4.out HB4.out (by decide) (by rw [hy, e])))
          clear hc4 hz4 c0 c0' c1
          generalize w4.setCell ⟨m, 0, none⟩ (.slice p4 (n + 1) c4) = w5 at *
          obtain ⟨r1, r2, r3, r4, r5⟩ := HI.out.rows HM5.out
          have HR5 := Lib.hid (show RefIn w5 (More M w1 w5) m (.slice p4 (n + 1) c4) (.slice pn d1.now.length cn) sv wv (fw ++ [.slice none 0 0]) (bornR d1) (k + 2) from
            { blk := HB5.out
              files := by
                have h0 := ownsRow_low HO5.out (Nat.zero_le _)
                have e1 : (bornR d1).files.length = n + 1 := by simp [bornR, HN.out]
                have e2 : ((bornR d1).files.zip (fw ++ [.slice none 0 0])).flatMap filC = (d1.files.zip fw).flatMap filC ++ [.string (bstr []), .string (bstr []), .slice none 0 0] := by
                  simp [bornR, List.zip_append HI.out.len.symm, filC, filR0]
                rw [e1, e2]
                exact h0
              len := by simp [bornR, HI.out.len]
              waits := fun i h1 h2 => by
                by_cases hi : i < fw.length
                · have hi2 : i < d1.files.length := by rw [← HI.out.len]; exact hi
                  have e1 : (fw ++ [Value.slice none 0 0])[i] = fw[i] := List.getElem_append_left hi
                  have e2 : (bornR d1).files[i] = d1.files[i] := List.getElem_append_left hi2
                  rw [e1, e2]
                  exact r2 i hi hi2
                · have hi1 : i = fw.length := by simp at h1; omega
                  subst hi1
                  have e1 : (fw ++ [Value.slice none 0 0])[fw.length] = Value.slice none 0 0 := by simp
                  have e2 : (bornR d1).files[fw.length] = filR0 := by simp [bornR, HI.out.len]
                  rw [e1, e2]
                  exact World.ownsRow_nil _ _ _ 2
              now := r3, sure := r4, turns := r5
              sm := .inl HI.out.sm
              sf := fun y hy => .inr ⟨Frm.ownsRow_base HO5.out y hy, (owns_ty HO5.out hy).lt⟩
              sn := fun y hy => .inl (HI.out.sn y hy), ss := fun y hy => .inl (HI.out.ss y hy), st := fun y hy => .inl (HI.out.st y hy)
              sw := fun v hv y hy => by
                rcases List.mem_append.1 hv with hv | hv
                · exact .inl (HI.out.sw v hv y hy)
                · simp at hv; subst hv; simp [Value.ownBlock] at hy
              fit := born_fit HI.out.fit })
          have c0 : w5.cell? ⟨m, 0, none⟩ = some (.slice p4 (n + 1) c4) := by rw [HB5.out.cell]; rfl
          have hw1 : IntKind.i64.wrap (((n + 1 : Nat) : Int) - 1) = (n : Int) := by rw [IntKind.wrap_i64]; omega
          have hw2 : IntKind.i64.wrap ((n : Int) + 1 - 1) = (n : Int) := by rw [IntKind.wrap_i64]; omega
          have hw3 : IntKind.i64.wrap (n : Int) = (n : Int) := by rw [IntKind.wrap_i64]; omega
          have HT := Lib.hid (turn_r w5 ⟨_, _, _, _, _, HR5.out⟩ (by omega) ⟨[], x, (n : Int)⟩ (turn_fit HR5.out.fit (by simp [bornR, HN.out]; omega)))
          unfold trA at HT
          go_wp2_with fail
          refine HT.out.mono ?_
          rintro e w6 ⟨rfl, h6, hm6⟩
          have H6 := Lib.hid h6
          have HM6 := Lib.hid hm6
          clear h6 hm6 HT c0 hw1 hw2 hw3
          go_wp2_with fail
          go_ret
          rw [HX.out, ← HN.out]
          have hs1 := HM1.out.size
          have hs5 := HM5.out.size
          have hs6 := HM6.out.size
          refine ⟨rfl, H6.out.wide (fun y hy => ?_), HM1.out.trans (HM5.out.trans HM6.out (fun y hy _ => hy)) (fun y hy _ => hy)⟩
          rcases hy with (hy | hy) | hy
          · exact .inl hy
          · exact .inr (by omega)
          · exact .inr (by omega)
  · have HX := Lib.hid (HX0.out.trans (if_pos he))
    have he' : (er != 0) = true := by simp [he]
    clear he
    go_wp2_with fail
    go_ret
    rw [HX.out]
    exact ⟨rfl, HOUT.out, HM1.out⟩
end
end Rf
end Go.Proofs.Ytchjncnolmiejaa

/- The document's disk: noughts, over. -/
namespace Go.Proofs.Ytchjncnolmiejaa
open Go.RowKit
namespace Rf
open Vd
theorem bstr_cat (a b : List UInt8) : bstr a ++ bstr b = bstr (a ++ b) := by
  apply ByteArray.ext
  simp [bstr]
theorem zeroB_row {w : World} {n : Nat} (hn : n ≤ 1099511627776) : Row (w.alloc (.cells (zeroB n) 5)) (.slice (some ⟨w.heap.size, 0, none⟩) n n) ((List.replicate n (0 : UInt8)).map u8v) := by
  have := row_mark (w := w) (b := w.heap.size) (n := n) (cs := zeroB n) (e := 5) (fr := (0, 0)) (l := (List.replicate n (0 : UInt8)).map u8v) rfl (zeroB_list n) (by simp) (by unfold maxLen; omega)
  exact this
theorem noughts_r (w : World) (n : Nat) (hn : n ≤ 1099511627776) : Calls Try.prog 156 #[.int .i64 (n : Int)] w fun e w' => e = .returned (.string (bstr (List.replicate n 0))) ∧ Keeps w w' := by
  have hmk : (Instr.makeSlice 22 (.int .i64 (n : Int)) (.int .i64 (n : Int))).run Try.prog w = .ok (.slice (some ⟨w.heap.size, 0, none⟩) n n) (w.alloc (.cells (zeroB n) 5)) := run_make_u8 Try.underlying22 Oct.i22 n (by omega) w
  have hst : (convert 22 9 (.slice (some ⟨w.heap.size, 0, none⟩) n n)).run Try.prog (w.alloc (.cells (zeroB n) 5)) = .ok (.string (bstr (List.replicate n 0))) (w.alloc (.cells (zeroB n) 5)) := (zeroB_row (w := w) hn).str Try.underlying22 Try.underlying5 Try.underlying9
  have HK := Lib.hid (show Keeps w (w.alloc (.cells (zeroB n) 5)) from (Keeps.refl _).alloc _)
  generalize w.alloc (.cells (zeroB n) 5) = w1 at *
  go_enter Try.func156, Try.ntmps156
  go_wp2_with fail
  go_ret
  exact ⟨rfl, HK.out⟩
/-- a text, made as long as a place -/
def longL (s : Str) (a : Nat) : Str := s ++ List.replicate (a - s.length) 0
theorem longL_len (s : Str) (a : Nat) : (longL s a).length = max s.length a := by simp [longL]; omega
theorem over_long (s : Str) (a : Nat) (b : Str) : overL s a b = if (longL s a).length ≤ a + b.length then (longL s a).take a ++ b else (longL s a).take a ++ b ++ (longL s a).drop (a + b.length) := by
  have hl := longL_len s a
  have hg : ∀ i, (longL s a)[i]? = if i < s.length then s[i]? else if i < max s.length a then some 0 else none := fun i => by
    unfold longL
    rw [List.getElem?_append]
    split
    · rfl
    · rw [List.getElem?_replicate]
      split <;> split <;> first | rfl | omega
  generalize longL s a = z at *
  apply List.ext_getElem?
  intro j
  rw [overL_get]
  have ht : (z.take a ++ b)[j]? = if j < a then z[j]? else b[j - a]? := by
    rw [List.getElem?_append, List.length_take, show min a z.length = a from by omega]
    split
    · rw [List.getElem?_take_of_lt ‹_›]
    · rfl
  by_cases hle : z.length ≤ a + b.length
  · rw [if_pos hle, ht]
    by_cases h1 : j < a
    · rw [if_neg (by omega), if_pos h1, hg]
      split
      · rfl
      · rw [if_pos (by omega), if_pos (by omega)]
    · rw [if_neg h1]
      by_cases h2 : j < a + b.length
      · rw [if_pos (by omega)]
      · rw [if_neg (by omega), if_neg (by omega), if_neg (by omega), List.getElem?_eq_none (by omega)]
  · rw [if_neg hle, List.getElem?_append, ht, List.length_append, List.length_take, show min a z.length = a from by omega]
    by_cases h2 : j < a + b.length
    · rw [if_pos h2]
      by_cases h1 : j < a
      · rw [if_neg (by omega), if_pos h1, hg]
        split
        · rfl
        · rw [if_pos (by omega), if_pos (by omega)]
      · rw [if_neg h1, if_pos (by omega)]
    · rw [if_neg h2, if_neg (by omega), List.getElem?_drop, show a + b.length + (j - (a + b.length)) = j from by omega, hg]
      split
      · rfl
      · split
        · rw [if_pos (by omega)]
        · rw [if_neg (by omega)]
theorem run_cut_str_l (l : Str) (n : Nat) (hn : n ≤ l.length) (w : World) : (Instr.slice 9 (.string (bstr l)) (some (.int .i64 (n : Int))) none none).run Try.prog w = .ok (.string (bstr (l.drop n))) w := by
  rw [run_slice_string_from_if w 9 (bstr l) .i64 (n : Int) Try.underlying9, if_pos (by rw [bstr_size]; omega)]
  congr 2
  apply ByteArray.ext
  simp only [bstr, ByteArray.data_extract]
  apply Array.ext'
  simp
  rw [List.take_of_length_le]
  simp [ByteArray.size]
set_option maxRecDepth 100000 in
set_option maxHeartbeats 2000000 in
theorem over_r (w : World) (s b : Str) (a : Nat) (hs : s.length ≤ 1000000000) (hb : b.length ≤ 1000000000) (ha : a ≤ 1000000000) : Calls Try.prog 117 #[.string (bstr s), .int .i64 (a : Int), .string (bstr b)] w fun e w' => e = .returned (.string (bstr (overL s a b))) ∧ Keeps w w' := by
  have hsz := bstr_size s
  have hbz := bstr_size b
  have HO := Lib.hid (over_long s a b)
  have hzl := longL_len s a
  have HN := Lib.hid (noughts_r w (a - s.length) (by omega))
  have hsub : s.length < a → IntKind.i64.wrap ((a : Int) - (s.length : Int)) = ((a - s.length : Nat) : Int) := fun h => by rw [IntKind.wrap_i64]; omega
  have hcat : bstr s ++ bstr (List.replicate (a - s.length) 0) = bstr (longL s a) := bstr_cat _ _
  have HL0 : Hid (¬ s.length < a → longL s a = s) := Lib.hid (fun h => by unfold longL; rw [show a - s.length = 0 from by omega]; simp)
  go_enter Try.func117, Try.ntmps117
  go_upto_if 11 with fail
  go_cut [0] (fun sv wx => sv = .string (bstr (longL s a)) ∧ Keeps w wx)
  case first =>
    by_cases h : s.length < a
    · have hsub' := hsub h
      have hz : (bstr (List.replicate (a - s.length) 0)).size = a - s.length := by rw [bstr_size, List.length_replicate]
      go_wp2_with fail
      refine HN.out.mono ?_
      rintro e w1 ⟨rfl, hk1⟩
      go_wp2_with fail
      go_meet
      exact ⟨rfl, hk1⟩
    · have e1 := HL0.out h
      go_wp2_with fail
      go_meet
      exact ⟨by rw [e1], Keeps.refl _⟩
  case rest =>
  obtain ⟨rfl, hk⟩ := hcut
  have HK := Lib.hid hk
  clear HN hsub hcat HL0 hk
  generalize longL s a = z at *
  have hzz := bstr_size z
  have hz2 : z.length ≤ 1000000000 := by omega
  have hz3 : a ≤ z.length := by omega
  clear hzl
  have hw : IntKind.i64.wrap ((a : Int) + (b.length : Int)) = ((a + b.length : Nat) : Int) := by rw [IntKind.wrap_i64]; omega
  have hc1 := run_cut_str z a (by omega)
  have ht : (bstr (z.take a)).size = a := by rw [bstr_size, List.length_take]; omega
  have hcat : bstr (z.take a) ++ bstr b = bstr (z.take a ++ b) := bstr_cat _ _
  have htb : (bstr (z.take a ++ b)).size = a + b.length := by rw [bstr_size, List.length_append, List.length_take]; omega
  by_cases hle : z.length ≤ a + b.length
  · have HX := Lib.hid (HO.out.trans (if_pos hle))
    clear HO
    have ht1 : decide (a + b.length < z.length) = false := by simp; omega
    have ht2 : decide (z.length ≤ a + b.length) = true := by simp; omega
    have ht3 : decide ((z.length : Int) ≤ ((a + b.length : Nat) : Int)) = true := by simp; omega
    have ht4 : decide ((z.length : Int) ≤ (a : Int) + (b.length : Int)) = true := by simp; omega
    go_wp2_with fail
    go_ret
    exact ⟨by rw [HX.out]; rfl, HK.out⟩
  · have HX := Lib.hid (HO.out.trans (if_neg hle))
    clear HO
    have hc2 := run_cut_str_l z (a + b.length) (by omega)
    have hd : (bstr (z.drop (a + b.length))).size = z.length - (a + b.length) := by rw [bstr_size, List.length_drop]
    have hex : (bstr z).extract (a + b.length) z.length = bstr (z.drop (a + b.length)) := by
      simp only [bstr, ByteArray.data_extract]
      apply ByteArray.ext
      apply Array.ext'
      simp
      rw [List.take_of_length_le (by simp)]
    have hcat2 : bstr (z.take a ++ b) ++ bstr (z.drop (a + b.length)) = bstr (z.take a ++ b ++ z.drop (a + b.length)) := bstr_cat _ _
    have ht2 : decide (z.length ≤ a + b.length) = false := by simp; omega
    have ht3 : decide ((z.length : Int) ≤ ((a + b.length : Nat) : Int)) = false := by simp; omega
    have ht4 : decide ((z.length : Int) ≤ (a : Int) + (b.length : Int)) = false := by simp; omega
    go_upto_region 6 with fail
    go_quiet (fail)
    go_wp2_with fail
    go_ret
    refine ⟨?_, by simpa using HK.out.drewN nq⟩
    rw [HX.out, List.append_assoc]
    rfl
end Rf
end Go.Proofs.Ytchjncnolmiejaa
