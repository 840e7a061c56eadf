/- Several texts in one: RfNew, TpBeg, TpSw, TpKx. -/
import Derived.Test.YtchjncnolmiejaaGreatK45
import Derived.Test.YtchjncnolmiejaaGreatK48
import Derived.Test.YtchjncnolmiejaaGreatK44
import Derived.Test.YtchjncnolmiejaaGreatK42
import Derived.Deep.Light
/- The document's disk: New of any files. (MADE BY gen_rfnew.py.) -/
namespace Go.Proofs.YtchjncnolmiejaaGreat
open Go.RowKit
namespace Rf
open Vd
def rdN (rs : List RFil) (l : Nms) (cap : Int) : RDsk := ⟨rs, l, [], [], cap, false, 0, -1, -1, 0⟩
def rdM (rs : List RFil) (l : Nms) (cap : Int) : RDsk := ⟨rs, l, l, [], cap, false, 0, -1, -1, 0⟩
theorem name_k (w : World) (l : Str) (hn : l.length ≤ 9000000000000000000) : Calls Tryz.prog 37 #[.string (bstr l)] w fun e w' => e = .returned (.bool (namedB l)) ∧ Keeps w w' := (name_r w l hn).mono (fun _ _ h => ⟨h.1, by rw [← h.2]; exact Keeps.refl _⟩)
theorem find_k (w : World) {v : Value} {l : Nms} (h : NmsAt w v l) (x : Str) : Calls Tryz.prog 38 #[v, .string (bstr x)] w fun e w' => e = .returned (.int .i64 (findR l x)) ∧ Keeps w w' := (find_r w h x).mono (fun _ _ h => ⟨h.1, by rw [← h.2]; exact Keeps.refl _⟩)
/-- where New stands behind some files -/
structure RNew (W wr : World) (q : Nat) (cap : Int) (fs : List FileX) (j : Nat) (fv nv : Value) (rs : List RFil) (l : Nms) (u : Nat) : Prop where
 blk : Blk wr q 59 (rdA (rdN rs l cap) fv nv (.slice none 0 0) (.slice none 0 0))
 files : wr.ownsRow W.heap.size 93 3 fv j (rs.flatMap filZ)
 now : NmsOwn wr W.heap.size nv l
 keep : Keeps W wr
 qW : W.heap.size ≤ q
 len : rs.length = j
 waits : ∀ x ∈ rs, x.waits = [] ∧ x.now.length ≤ 4194304 ∧ x.sure.length ≤ 4194304
 ll : l.length ≤ j
 asc : AscN l
 lt : ∀ p ∈ l, p.2 < j
 le : (u : Int) ≤ cap
 rest : newG cap (fs.drop j) rs l u = newG cap fs [] [] 0
def NewDR (W : World) (r : Option RDsk) (k : Nat) (e : Ending) (w' : World) : Prop := Keeps W w' ∧ match r with
 | none => e = .returned (.pointer none)
 | some d => ∃ m, e = .returned (.pointer (some ⟨m, 0, none⟩)) ∧ RefAt w' (fun y => W.heap.size ≤ y ∧ y < w'.heap.size) m d k
theorem rnew_end {W wr : World} {q : Nat} {cap : Int} {fs : List FileX} {fv nv : Value} {rs : List RFil} {l : Nms} {u : Nat} (h : RNew W wr q cap fs fs.length fv nv rs l u) (hc : ¬ (cap < 1 ∨ 4194304 < cap ∨ 1024 < fs.length)) : NewDR W (newR fs cap) fs.length (.returned (.pointer (some ⟨q, 0, none⟩))) (wr.setCell ⟨q, 2, none⟩ nv) := by
 have hX : newR fs cap = some (rdM rs l cap) := by
  unfold newR
  rw [if_neg hc, ← h.rest, List.drop_length]
  rfl
 have hM := (Mods.refl (· = q) wr).setCell (p := ⟨q, 2, none⟩) (fun _ => rfl) nv
 have hB := h.blk.set_ 2 nv
 rw [hX]
 refine ⟨hM.keeps h.keep (fun y hy => by subst hy; exact h.qW), q, rfl, fv, nv, nv, .slice none 0 0, List.replicate rs.length (.slice none 0 0), ?_⟩
 have hfs := Frm.ownsRow_mods h.files hM (fun y hy e => Frm.ownsRow_ne h.files h.blk (by decide) (by rw [hy, e]))
 have hns : NmsOwn (wr.setCell ⟨q, 2, none⟩ nv) W.heap.size nv l := h.now.mods hM (fun y hy e => Frm.ownsRow_ne h.now h.blk (by decide) (by rw [hy, e]))
 have hn0 : NmsOwn (wr.setCell ⟨q, 2, none⟩ nv) 0 nv l := ownsRow_low hns (Nat.zero_le _)
 have hnb : ∀ y, nv.ownBlock = some y → W.heap.size ≤ y ∧ y < (wr.setCell ⟨q, 2, none⟩ nv).heap.size := fun y hy => ⟨Frm.ownsRow_base hns y hy, (owns_ty hns hy).lt⟩
 exact
  {blk := hB
   files := by
    show World.ownsRow _ 0 93 3 fv rs.length ((rs.zip (List.replicate rs.length (.slice none 0 0))).flatMap filC)
    rw [filZ_zip, h.len]
    exact ownsRow_low hfs (Nat.zero_le _)
   len := by simp [rdM]
   waits := fun i h1 h2 => by
    have hw := (h.waits _ (List.getElem_mem (show i < rs.length from h2))).1
    have go : ∀ (f : RFil) (v : Value), f.waits = [] → v = .slice none 0 0 → World.ownsRow (wr.setCell ⟨q, 2, none⟩ nv) 0 127 2 v f.waits.length (f.waits.flatMap wrC) := fun f v hf hv => by
     rw [hf, hv]
     exact World.ownsRow_nil _ _ _ 2
    exact go _ _ hw (List.getElem_replicate ..)
   now := hn0, sure := hn0
   turns := World.ownsRow_nil _ _ _ 3
   sm := ⟨h.qW, hB.lt⟩
   sf := fun y hy => ⟨Frm.ownsRow_base hfs y hy, (owns_ty hfs hy).lt⟩
   sn := hnb, ss := hnb
   st := fun y hy => by simp [Value.ownBlock] at hy
   sw := fun v hv y hy => by
    rw [(List.mem_replicate.1 hv).2] at hy
    simp [Value.ownBlock] at hy
   fit :=
    {f := by show rs.length ≤ fs.length; rw [h.len]; exact Nat.le_refl _
     n := h.ll, s := h.ll, w := Nat.zero_le _
     p := fun x hx => by rw [(h.waits x hx).1]; exact Nat.zero_le _
     b := fun x hx => ⟨Nat.le_trans (h.waits x hx).2.1 (by decide), Nat.le_trans (h.waits x hx).2.2 (by decide)⟩
     c0 := Int.le_refl _, c1 := Int.natCast_nonneg _
     t1 := neg1_in, t2 := neg1_in
     an := h.asc, au := h.asc
     is := fun p hp => by show p.2 < rs.length; rw [h.len]; exact h.lt p hp
     cap := ⟨by show 1 ≤ cap; omega, by show cap ≤ 4194304; omega⟩ } }
theorem rnew_more {W wo wr : World} {q : Nat} {cap : Int} {fs : List FileX} {j : Nat} {fv nv fv' nv' : Value} {rs : List RFil} {l : Nms} {u : Nat} {f : FileX} (h : RNew W wo q cap fs j fv nv rs l u) (hb : Blk wr q 59 (rdA (rdN (rs ++ [filF f]) (putN l f.1 j) cap) fv' nv' (.slice none 0 0) (.slice none 0 0))) (hf : wr.ownsRow W.heap.size 93 3 fv' (j + 1) ((rs ++ [filF f]).flatMap filZ)) (hn : NmsOwn wr W.heap.size nv' (putN l f.1 j)) (hk : Keeps W wr) (hfl : f.2.1.length ≤ 4194304) (hu : (u : Int) + (f.2.1.length : Int) ≤ cap) (hr : newG cap (fs.drop (j + 1)) (rs ++ [filF f]) (putN l f.1 rs.length) (u + f.2.1.length) = newG cap fs [] [] 0) : RNew W wr q cap fs (j + 1) fv' nv' (rs ++ [filF f]) (putN l f.1 j) (u + f.2.1.length) :=
 {blk := hb, files := hf, now := hn, keep := hk, qW := h.qW
  len := by rw [List.length_append, h.len]; rfl
  waits := fun x hx => by
   rcases List.mem_append.1 hx with hx | hx
   ·exact h.waits x hx
   ·rw [List.mem_singleton.1 hx]; exact ⟨rfl, hfl, hfl⟩
  ll := Nat.le_trans (put_len l f.1 j) (Nat.succ_le_succ h.ll)
  asc := ascN_put h.asc _ _
  lt := fun p hp => by
   rcases put_mem hp with hp | rfl
   ·have := h.lt p hp; omega
   ·exact Nat.lt_succ_self _
  le := by omega
  rest := by rw [h.len] at hr; exact hr }
set_option maxRecDepth 100000 in
set_option maxHeartbeats 8000000 in
theorem rnew_any (w : World) (v : Value) (fs : List FileX) (h : RowS w 2 v fs.length (fs.flatMap fileC)) (hok : ∀ f ∈ fs, FileOk w f) (cap : Int) : Calls Tryz.prog 8 #[v, .int .i64 cap] w (NewDR w (newR fs cap) fs.length) := by
 obtain ⟨pa, ca, rfl, -, -⟩ := h.form
 have HROW := Lib.hid h
 have HOK := Lib.hid hok
 clear h hok
 obtain ⟨n, hn⟩ : ∃ n, n = fs.length := ⟨_, rfl⟩
 have HN := Lib.hid hn
 rw [← hn]
 by_cases h1 : cap < 1
 ·rw [show newR fs cap = none from if_pos (.inl h1)]
  clear hn
  go_enter Tryz.func8, Tryz.ntmps8
  go_wp2_with fail
  go_ret
  exact ⟨Keeps.refl _, rfl⟩
 by_cases h2 : 4194304 < cap
 ·rw [show newR fs cap = none from if_pos (.inr (.inl h2))]
  clear hn
  go_enter Tryz.func8, Tryz.ntmps8
  go_wp2_with fail
  go_ret
  exact ⟨Keeps.refl _, rfl⟩
 by_cases h3 : 1024 < n
 ·rw [show newR fs cap = none from if_pos (.inr (.inr (by omega)))]
  clear hn
  go_enter Tryz.func8, Tryz.ntmps8
  go_wp2_with fail
  go_ret
  exact ⟨Keeps.refl _, rfl⟩
 have HCC := Lib.hid (show ¬ (cap < 1 ∨ 4194304 < cap ∨ 1024 < fs.length) from by omega)
 have HX0 := Lib.hid (show newR fs cap = (newG cap fs [] [] 0).map fun r => ⟨r.1, r.2, r.2, [], cap, false, 0, -1, -1, 0⟩ from if_neg HCC.out)
 clear hn
 go_enter Tryz.func8, Tryz.ntmps8
 go_upto_region 4 with fail
 generalize hW : World.alloc w _ = w1
 have HS1 := Lib.hid (show RNew w w1 w.heap.size cap fs 0 (.slice none 0 0) (.slice none 0 0) [] [] 0 from by
  rw [← hW]
  exact
   {blk := Blk.new _ _ _ rfl, files := World.ownsRow_nil _ _ _ 3, now := World.ownsRow_nil _ _ _ 2, keep := (Keeps.refl _).alloc _, qW := Nat.le_refl _, len := rfl
    waits := fun x hx => absurd hx (List.not_mem_nil), ll := Nat.le_refl _, asc := List.Pairwise.nil, lt := fun p hp => absurd hp (List.not_mem_nil), le := by show (0 : Int) ≤ cap; omega, rest := rfl })
 clear hW
 obtain ⟨q, hq⟩ : ∃ q, q = w.heap.size := ⟨_, rfl⟩
 rw [← hq] at HS1 ⊢
 clear hq
 go_wp2_with fail
 go_loopw [6, 7] (fun ux ix wr => ∃ (j u : Nat), ix = .int .i64 (j : Int) ∧ j ≤ n ∧ ux = .int .i64 (u : Int) ∧ Hid (∃ po co pl nl cl rs l, RNew w wr q cap fs j (.slice po j co) (.slice pl nl cl) rs l u)) (fun _ ix _ => n - (RowKit.intOf ix).toNat)
 case atStart => exact ⟨0, 0, rfl, Nat.zero_le _, rfl, Lib.hid ⟨none, 0, none, 0, 0, [], [], HS1.out⟩⟩
 case round =>
  clear HS1
  obtain ⟨j, u, rfl, hj, rfl, HQ⟩ := hrel
  obtain ⟨wo, rfl⟩ : ∃ z : World, z = wr := ⟨_, rfl⟩
  obtain ⟨po, co, pl, nl, cl, rs, l, hs⟩ := HQ.out
  have HS := Lib.hid hs
  clear HQ hs
  by_cases hlt : j < n
  ·have hjl : j < fs.length := by rw [← HN.out]; exact hlt
   have hlt' : (j : Int) < (n : Int) := by omega
   obtain ⟨b0, off, cap', hv, hrg⟩ := rowS_file HROW.out hjl
   simp only [Value.slice.injEq] at hv
   obtain ⟨rfl, -, rfl⟩ := hv
   have hokj := HOK.out _ (List.getElem_mem hjl)
   have HDR := Lib.hid (show newG cap fs [] [] 0 = if namedB fs[j].1 = false then none else if (Vd.look l fs[j].1).isSome then none else if cap - (u : Int) < (fs[j].2.1.length : Int) then none else newG cap (fs.drop (j + 1)) (rs ++ [filF fs[j]]) (putN l fs[j].1 rs.length) (u + fs[j].2.1.length) from by rw [← HS.out.rest, List.drop_eq_getElem_cons hjl, newG_cons])
   obtain ⟨x, b, bv, hf⟩ : ∃ x b bv, fs[j] = (x, b, bv) := ⟨_, _, _, rfl⟩
   rw [hf] at hrg hokj HDR
   obtain ⟨pd, cd, hbv, -, -⟩ := hokj.row.formB
   have hbv : bv = .slice pd b.length cd := hbv
   subst hbv
   have HRG := Lib.hid (show wo.rangeAt b0 (off + j * 2) [.string (bstr x), .slice pd b.length cd] from fun i y hy => by
    have := hrg i y hy
    rw [HS.out.keep.cell (p := ⟨b0, off + j * 2 + i, none⟩) (lt_of_cell this)]
    exact this)
   have HDB := Lib.hid hokj.row
   have hxl : x.length ≤ 9000000000000000000 := hokj.len
   simp only at HDR
   clear hrg hokj hf
   go_upto_region 9 with (refine wpList_ldR rfl fileM HRG.out _ rfl rfl ?_)
   generalize hW : World.alloc wo _ = wa
   have HKa := Lib.hid (show Keeps wo wa from by rw [← hW]; exact (Keeps.refl _).alloc _)
   have HA := Lib.hid (show Blk wa wo.heap.size 28 #[.string (bstr x), .slice pd b.length cd] from by rw [← hW]; exact Blk.new _ _ _ rfl)
   clear hW
   obtain ⟨A, hA⟩ : ∃ z, z = wo.heap.size := ⟨_, rfl⟩
   rw [← hA] at HA ⊢
   have HAq := Lib.hid (show A ≠ q from by have := HS.out.blk.lt; omega)
   have HAf := Lib.hid (show (Value.slice po j co).ownBlock ≠ some A from fun e => by have := (owns_ty HS.out.files e).lt; omega)
   have HAn := Lib.hid (show (Value.slice pl nl cl).ownBlock ≠ some A from fun e => by have := (owns_ty HS.out.now e).lt; omega)
   clear hA
   have hnl : nl = l.length := by
    obtain ⟨p', c', hv, -, -⟩ := Frm.ownsRow_form HS.out.now
    simp only [Value.slice.injEq] at hv
    exact hv.2.1
   subst hnl
   have HB := Lib.hid (HS.out.blk.keeps HKa.out)
   have HNO := Lib.hid (HS.out.now.mods (Mods.of_keeps (S := fun _ => False) HKa.out) (fun _ _ h => h))
   have HFO := Lib.hid (Frm.ownsRow_keeps HS.out.files HKa.out)
   have HKW := Lib.hid (HS.out.keep.trans HKa.out)
   have a0 : wa.cell? ⟨A, 0, none⟩ = some (.string (bstr x)) := by rw [HA.out.cell]; rfl
   have a1 : wa.cell? ⟨A, 1, none⟩ = some (.slice pd b.length cd) := by rw [HA.out.cell]; rfl
   have c1 : wa.cell? ⟨q, 1, none⟩ = some (.slice pl l.length cl) := by rw [HB.out.cell]; rfl
   have hu := HS.out.le
   have hws : IntKind.i64.wrap (cap - (u : Int)) = cap - (u : Int) := by rw [IntKind.wrap_i64]; omega
   have HXX : Hid (newR fs cap = (newG cap fs [] [] 0).map fun r => ⟨r.1, r.2, r.2, [], cap, false, 0, -1, -1, 0⟩) := HX0
   cases hnm : namedB x with
   | false =>
    have HXN := Lib.hid (show newR fs cap = none from by rw [HXX.out, HDR.out, if_pos hnm]; rfl)
    refine wp_region_noPanic ?_
    refine wp_region_held_drew (S := fun w' => Keeps (wa) w') (by kernel_rfl) ((Keeps.refl _).drew) (fun _ => ?_)
    have hHeld : Keeps (wa) (wa).drew := (Keeps.refl _).drew
    refine tq 0 33 ?_
    refine tq 1 34 ?_ (hy := fun w' hSw => by
     have hSw : Keeps _ w' := hSw
     have hx := keep1 hSw a0
     clear hSw
     go_simp
     try with_reducible rfl)
    refine rd1 2 (fun K hK => ?_)
    go_simp
    refine (name_k _ x hxl).mono ?_
    rintro e y1 ⟨rfl, hk⟩
    have hb : Keeps _ y1 := hHeld.trans hk
    have HK9 := Lib.hid (HKW.out.trans (hHeld.trans hk))
    rw [hnm]
    go_wp2_with fail
    refine bk1 hK hb ?_
    clear hK K hHeld hb hk
    intro hHeld
    refine tq 3 36 ?_
    refine tq 4 37 ?_
    refine wpAnyH_take (i := 5) (v := undef) (by rfl) (by kernel_rfl) (by kernel_rfl) (by kernel_rfl) (by intro _ _ _ h; exact h) (Or.inr ⟨by kernel_rfl, rfl⟩) (by assumption) ?rest5
    change wpAnyH _ _ _ _ _ _ _ (Act.put _ (some 38) _) _
    try simp only [Act.put, List.setIfInBounds_toArray, List.set_cons_zero, List.set_cons_succ]
    refine wpAnyH_take (i := 6) (v := undef) (by rfl) (by kernel_rfl) (by kernel_rfl) (by kernel_rfl) (by intro _ _ _ h; exact h) (Or.inr ⟨by kernel_rfl, rfl⟩) (by assumption) ?rest6
    change wpAnyH _ _ _ _ _ _ _ (Act.put _ (some 39) _) _
    try simp only [Act.put, List.setIfInBounds_toArray, List.set_cons_zero, List.set_cons_succ]
    refine wpAnyH_take (i := 7) (v := undef) (by rfl) (by kernel_rfl) (by kernel_rfl) (by kernel_rfl) (by intro _ _ _ h; exact h) (Or.inr ⟨by kernel_rfl, rfl⟩) (by assumption) ?rest7
    change wpAnyH _ _ _ _ _ _ _ (Act.put _ (some 40) _) _
    try simp only [Act.put, List.setIfInBounds_toArray, List.set_cons_zero, List.set_cons_succ]
    refine wpAnyH_take (i := 8) (v := undef) (by rfl) (by kernel_rfl) (by kernel_rfl) (by kernel_rfl) (by intro _ _ _ h; exact h) (Or.inr ⟨by kernel_rfl, rfl⟩) (by assumption) ?rest8
    change wpAnyH _ _ _ _ _ _ _ (Act.put _ (some 41) _) _
    try simp only [Act.put, List.setIfInBounds_toArray, List.set_cons_zero, List.set_cons_succ]
    refine wpAnyH_take (i := 9) (v := undef) (by rfl) (by kernel_rfl) (by kernel_rfl) (by kernel_rfl) (by intro _ _ _ h; exact h) (Or.inr ⟨by kernel_rfl, rfl⟩) (by assumption) ?rest9
    change wpAnyH _ _ _ _ _ _ _ (Act.put _ (some 42) _) _
    try simp only [Act.put, List.setIfInBounds_toArray, List.set_cons_zero, List.set_cons_succ]
    refine wpAnyH_take (i := 10) (v := undef) (by rfl) (by kernel_rfl) (by kernel_rfl) (by kernel_rfl) (by intro _ _ _ h; exact h) (Or.inr ⟨by kernel_rfl, rfl⟩) (by assumption) ?rest10
    change wpAnyH _ _ _ _ _ _ _ (Act.put _ (some 43) _) _
    try simp only [Act.put, List.setIfInBounds_toArray, List.set_cons_zero, List.set_cons_succ]
    refine wpAnyH_take (i := 11) (v := undef) (by rfl) (by kernel_rfl) (by kernel_rfl) (by kernel_rfl) (by intro _ _ _ h; exact h) (Or.inr ⟨by kernel_rfl, rfl⟩) (by assumption) ?rest11
    change wpAnyH _ _ _ _ _ _ _ (Act.put _ (some 44) _) _
    try simp only [Act.put, List.setIfInBounds_toArray, List.set_cons_zero, List.set_cons_succ]
    refine wpAnyH_take (i := 12) (v := undef) (by rfl) (by kernel_rfl) (by kernel_rfl) (by kernel_rfl) (by intro _ _ _ h; exact h) (Or.inr ⟨by kernel_rfl, rfl⟩) (by assumption) ?rest12
    change wpAnyH _ _ _ _ _ _ _ (Act.put _ (some 45) _) _
    try simp only [Act.put, List.setIfInBounds_toArray, List.set_cons_zero, List.set_cons_succ]
    refine tq 13 46 ?_
    refine tq 14 47 ?_
    refine wpAnyH_take (i := 15) (v := undef) (by rfl) (by kernel_rfl) (by kernel_rfl) (by kernel_rfl) (by intro _ _ _ h; exact h) (Or.inr ⟨by kernel_rfl, rfl⟩) (by assumption) ?rest15
    change wpAnyH _ _ _ _ _ _ _ (Act.put _ (some 48) _) _
    try simp only [Act.put, List.setIfInBounds_toArray, List.set_cons_zero, List.set_cons_succ]
    refine wpAnyH_take (i := 16) (v := undef) (by rfl) (by kernel_rfl) (by kernel_rfl) (by kernel_rfl) (by intro _ _ _ h; exact h) (Or.inr ⟨by kernel_rfl, rfl⟩) (by assumption) ?rest16
    change wpAnyH _ _ _ _ _ _ _ (Act.put _ (some 49) _) _
    try simp only [Act.put, List.setIfInBounds_toArray, List.set_cons_zero, List.set_cons_succ]
    refine wpAnyH_take (i := 17) (v := undef) (by rfl) (by kernel_rfl) (by kernel_rfl) (by kernel_rfl) (by intro _ _ _ h; exact h) (Or.inr ⟨by kernel_rfl, rfl⟩) (by assumption) ?rest17
    change wpAnyH _ _ _ _ _ _ _ (Act.put _ (some 50) _) _
    try simp only [Act.put, List.setIfInBounds_toArray, List.set_cons_zero, List.set_cons_succ]
    refine wpAnyH_take (i := 18) (v := undef) (by rfl) (by kernel_rfl) (by kernel_rfl) (by kernel_rfl) (by intro _ _ _ h; exact h) (Or.inr ⟨by kernel_rfl, rfl⟩) (by assumption) ?rest18
    change wpAnyH _ _ _ _ _ _ _ (Act.put _ (some 51) _) _
    try simp only [Act.put, List.setIfInBounds_toArray, List.set_cons_zero, List.set_cons_succ]
    refine wpAnyH_take (i := 19) (v := undef) (by rfl) (by kernel_rfl) (by kernel_rfl) (by kernel_rfl) (by intro _ _ _ h; exact h) (Or.inr ⟨by kernel_rfl, rfl⟩) (by assumption) ?rest19
    change wpAnyH _ _ _ _ _ _ _ (Act.put _ (some 52) _) _
    try simp only [Act.put, List.setIfInBounds_toArray, List.set_cons_zero, List.set_cons_succ]
    refine wpAnyH_take (i := 20) (v := undef) (by rfl) (by kernel_rfl) (by kernel_rfl) (by kernel_rfl) (by intro _ _ _ h; exact h) (Or.inr ⟨by kernel_rfl, rfl⟩) (by assumption) ?rest20
    change wpAnyH _ _ _ _ _ _ _ (Act.put _ (some 53) _) _
    try simp only [Act.put, List.setIfInBounds_toArray, List.set_cons_zero, List.set_cons_succ]
    refine wpAnyH_take (i := 21) (v := undef) (by rfl) (by kernel_rfl) (by kernel_rfl) (by kernel_rfl) (by intro _ _ _ h; exact h) (Or.inr ⟨by kernel_rfl, rfl⟩) (by assumption) ?rest21
    change wpAnyH _ _ _ _ _ _ _ (Act.put _ (some 54) _) _
    try simp only [Act.put, List.setIfInBounds_toArray, List.set_cons_zero, List.set_cons_succ]
    refine tq 22 55 ?_
    refine wpAnyH_done (by kernel_rfl) ?_ _
    refine NoPanic.normal ?_
    go_wp2_with fail
    go_ret
    rw [HXN.out]; exact ⟨HK9.out.trans hHeld, rfl⟩
   | true =>
    have HD2 := Lib.hid (HDR.out.trans (if_neg (by simp [hnm])))
    have HFE : Hid (findR l x = match Vd.look l x with | none => -1 | some i => (i : Int)) := Lib.hid rfl
    cases hlk : Vd.look l x with
    | some i =>
     have HXN := Lib.hid (show newR fs cap = none from by rw [HXX.out, HD2.out, hlk]; rfl)
     rw [hlk] at HFE
     have hi0 : (0 : Int) ≤ (i : Int) := by omega
     refine wp_region_noPanic ?_
     refine wp_region_held_drew (S := fun w' => Keeps (wa) w') (by kernel_rfl) ((Keeps.refl _).drew) (fun _ => ?_)
     have hHeld : Keeps (wa) (wa).drew := (Keeps.refl _).drew
     refine tq 0 33 ?_
     refine tq 1 34 ?_ (hy := fun w' hSw => by
      have hSw : Keeps _ w' := hSw
      have hx := keep1 hSw a0
      clear hSw
      go_simp
      try with_reducible rfl)
     refine rd1 2 (fun K hK => ?_)
     go_simp
     refine (name_k _ x hxl).mono ?_
     rintro e y1 ⟨rfl, hk⟩
     have hb : Keeps _ y1 := hHeld.trans hk
     have HK9 := Lib.hid (HKW.out.trans (hHeld.trans hk))
     have HN9 := Lib.hid (HNO.out.mods (Mods.of_keeps (S := fun _ => False) (hHeld.trans hk)) (fun _ _ h => h))
     have a0 := keep1 (hHeld.trans hk) a0
     have c1 := keep1 (hHeld.trans hk) c1
     rw [hnm]
     go_wp2_with fail
     refine bk1 hK hb ?_
     clear hK K hHeld hb hk
     intro hHeld
     refine tq 3 36 ?_
     refine tq 4 37 ?_
     refine tq 5 38 ?_
     refine tq 6 39 ?_
     refine tq 7 40 ?_
     refine tq 8 41 ?_ (hy := fun w' hSw => by
      have hSw : Keeps _ w' := hSw
      have hx := keep1 hSw c1
      clear hSw
      go_simp
      try with_reducible rfl)
     refine tq 9 42 ?_
     refine tq 10 43 ?_ (hy := fun w' hSw => by
      have hSw : Keeps _ w' := hSw
      have hx := keep1 hSw a0
      clear hSw
      go_simp
      try with_reducible rfl)
     refine rd1 11 (fun K hK => ?_)
     go_simp
     refine (find_k _ (NmsOwn.at_ (HN9.out.mods (Mods.of_keeps (S := fun _ => False) hHeld) (fun _ _ h => h))) x).mono ?_
     rintro e y2 ⟨rfl, hk⟩
     have hb : Keeps _ y2 := hHeld.trans hk
     have HK9 := Lib.hid (HK9.out.trans (hHeld.trans hk))
     rw [HFE.out]
     go_wp2_with fail
     refine bk1 hK hb ?_
     clear hK K hHeld hb hk
     intro hHeld
     refine tq 12 45 ?_
     refine tq 13 46 ?_
     refine tq 14 47 ?_
     refine wpAnyH_take (i := 15) (v := undef) (by rfl) (by kernel_rfl) (by kernel_rfl) (by kernel_rfl) (by intro _ _ _ h; exact h) (Or.inr ⟨by kernel_rfl, rfl⟩) (by assumption) ?rest36
     change wpAnyH _ _ _ _ _ _ _ (Act.put _ (some 48) _) _
     try simp only [Act.put, List.setIfInBounds_toArray, List.set_cons_zero, List.set_cons_succ]
     refine wpAnyH_take (i := 16) (v := undef) (by rfl) (by kernel_rfl) (by kernel_rfl) (by kernel_rfl) (by intro _ _ _ h; exact h) (Or.inr ⟨by kernel_rfl, rfl⟩) (by assumption) ?rest37
     change wpAnyH _ _ _ _ _ _ _ (Act.put _ (some 49) _) _
     try simp only [Act.put, List.setIfInBounds_toArray, List.set_cons_zero, List.set_cons_succ]
     refine wpAnyH_take (i := 17) (v := undef) (by rfl) (by kernel_rfl) (by kernel_rfl) (by kernel_rfl) (by intro _ _ _ h; exact h) (Or.inr ⟨by kernel_rfl, rfl⟩) (by assumption) ?rest38
     change wpAnyH _ _ _ _ _ _ _ (Act.put _ (some 50) _) _
     try simp only [Act.put, List.setIfInBounds_toArray, List.set_cons_zero, List.set_cons_succ]
     refine wpAnyH_take (i := 18) (v := undef) (by rfl) (by kernel_rfl) (by kernel_rfl) (by kernel_rfl) (by intro _ _ _ h; exact h) (Or.inr ⟨by kernel_rfl, rfl⟩) (by assumption) ?rest39
     change wpAnyH _ _ _ _ _ _ _ (Act.put _ (some 51) _) _
     try simp only [Act.put, List.setIfInBounds_toArray, List.set_cons_zero, List.set_cons_succ]
     refine wpAnyH_take (i := 19) (v := undef) (by rfl) (by kernel_rfl) (by kernel_rfl) (by kernel_rfl) (by intro _ _ _ h; exact h) (Or.inr ⟨by kernel_rfl, rfl⟩) (by assumption) ?rest40
     change wpAnyH _ _ _ _ _ _ _ (Act.put _ (some 52) _) _
     try simp only [Act.put, List.setIfInBounds_toArray, List.set_cons_zero, List.set_cons_succ]
     refine wpAnyH_take (i := 20) (v := undef) (by rfl) (by kernel_rfl) (by kernel_rfl) (by kernel_rfl) (by intro _ _ _ h; exact h) (Or.inr ⟨by kernel_rfl, rfl⟩) (by assumption) ?rest41
     change wpAnyH _ _ _ _ _ _ _ (Act.put _ (some 53) _) _
     try simp only [Act.put, List.setIfInBounds_toArray, List.set_cons_zero, List.set_cons_succ]
     refine wpAnyH_take (i := 21) (v := undef) (by rfl) (by kernel_rfl) (by kernel_rfl) (by kernel_rfl) (by intro _ _ _ h; exact h) (Or.inr ⟨by kernel_rfl, rfl⟩) (by assumption) ?rest42
     change wpAnyH _ _ _ _ _ _ _ (Act.put _ (some 54) _) _
     try simp only [Act.put, List.setIfInBounds_toArray, List.set_cons_zero, List.set_cons_succ]
     refine tq 22 55 ?_
     refine wpAnyH_done (by kernel_rfl) ?_ _
     refine NoPanic.normal ?_
     go_wp2_with fail
     go_ret
     rw [HXN.out]; exact ⟨HK9.out.trans hHeld, rfl⟩
    | none =>
     have HD3 := Lib.hid (HD2.out.trans (if_neg (by simp [hlk])))
     rw [hlk] at HFE
     have hm1 : ((-1 : Int) ≥ 0) = False := by simp
     refine wp_region_noPanic ?_
     refine wp_region_held_drew (S := fun w' => Keeps (wa) w') (by kernel_rfl) ((Keeps.refl _).drew) (fun _ => ?_)
     have hHeld : Keeps (wa) (wa).drew := (Keeps.refl _).drew
     refine tq 0 33 ?_
     refine tq 1 34 ?_ (hy := fun w' hSw => by
      have hSw : Keeps _ w' := hSw
      have hx := keep1 hSw a0
      clear hSw
      go_simp
      try with_reducible rfl)
     refine rd1 2 (fun K hK => ?_)
     go_simp
     refine (name_k _ x hxl).mono ?_
     rintro e y1 ⟨rfl, hk⟩
     have hb : Keeps _ y1 := hHeld.trans hk
     have HK9 := Lib.hid (hHeld.trans hk)
     have HN9 := Lib.hid (HNO.out.mods (Mods.of_keeps (S := fun _ => False) (hHeld.trans hk)) (fun _ _ h => h))
     have a0 := keep1 (hHeld.trans hk) a0
     have a1 := keep1 (hHeld.trans hk) a1
     have c1 := keep1 (hHeld.trans hk) c1
     rw [hnm]
     go_wp2_with fail
     refine bk1 hK hb ?_
     clear hK K hHeld hb hk
     intro hHeld
     refine tq 3 36 ?_
     refine tq 4 37 ?_
     refine tq 5 38 ?_
     refine tq 6 39 ?_
     refine tq 7 40 ?_
     refine tq 8 41 ?_ (hy := fun w' hSw => by
      have hSw : Keeps _ w' := hSw
      have hx := keep1 hSw c1
      clear hSw
      go_simp
      try with_reducible rfl)
     refine tq 9 42 ?_
     refine tq 10 43 ?_ (hy := fun w' hSw => by
      have hSw : Keeps _ w' := hSw
      have hx := keep1 hSw a0
      clear hSw
      go_simp
      try with_reducible rfl)
     refine rd1 11 (fun K hK => ?_)
     go_simp
     refine (find_k _ (NmsOwn.at_ (HN9.out.mods (Mods.of_keeps (S := fun _ => False) hHeld) (fun _ _ h => h))) x).mono ?_
     rintro e y2 ⟨rfl, hk⟩
     have hb : Keeps _ y2 := hHeld.trans hk
     have HK9 := Lib.hid (HK9.out.trans (hHeld.trans hk))
     have a1 := keep1 (hHeld.trans hk) a1
     rw [HFE.out]
     go_wp2_with fail
     refine bk1 hK hb ?_
     clear hK K hHeld hb hk
     intro hHeld
     refine tq 12 45 ?_
     refine tq 13 46 ?_
     refine tq 14 47 ?_
     refine tq 15 48 ?_
     refine tq 16 49 ?_ (hy := fun w' hSw => by
      have hSw : Keeps _ w' := hSw
      have hx := keep1 hSw a1
      clear hSw
      go_simp
      try with_reducible rfl)
     refine tq 17 50 ?_
     refine tq 18 51 ?_
     refine tq 19 52 ?_
     refine tq 20 53 ?_
     refine tq 21 54 ?_
     refine tq 22 55 ?_
     refine wpAnyH_done (by kernel_rfl) ?_ _
     refine NoPanic.normal ?_
     have HK9 := Lib.hid (HK9.out.trans hHeld)
     clear hHeld a0 a1 c1 hnm hlk HFE HN9
     by_cases hfit : cap - (u : Int) < (b.length : Int)
     ·have HXN := Lib.hid (show newR fs cap = none from by rw [HXX.out, HD3.out, if_pos hfit]; rfl)
      have hfit' : decide (cap - (u : Int) < (b.length : Int)) = true := by simp [hfit]
      have HKE := Lib.hid (HKW.out.trans HK9.out)
      go_wp2_with fail
      go_ret
      rw [HXN.out]; exact ⟨HKE.out, rfl⟩
     have HD4 := Lib.hid (HD3.out.trans (if_neg hfit))
     have hfit' : decide (cap - (u : Int) < (b.length : Int)) = false := by simp [hfit]
     obtain ⟨wb, rfl⟩ : ∃ z : World, z = y2 := ⟨_, rfl⟩
     have HAb := Lib.hid (HA.out.keeps HK9.out)
     have HBb := Lib.hid (HB.out.keeps HK9.out)
     have HFb := Lib.hid (Frm.ownsRow_keeps HFO.out HK9.out)
     have HNb := Lib.hid (HNO.out.mods (Mods.of_keeps (S := fun _ => False) HK9.out) (fun _ _ h => h))
     have HKb := Lib.hid (HKW.out.trans HK9.out)
     have a1 : wb.cell? ⟨A, 1, none⟩ = some (.slice pd b.length cd) := by rw [HAb.out.cell]; rfl
     have hwu : IntKind.i64.wrap ((u : Int) + (b.length : Int)) = ((u + b.length : Nat) : Int) := by rw [IntKind.wrap_i64]; omega
     go_upto_region 12 with fail
     clear a1
     have HTW := Lib.hid (show ∀ y, (y = q ∨ (Value.slice po j co).ownBlock = some y) → w.heap.size ≤ y from fun y hy => hy.elim (fun e => by subst e; exact HS.out.qW) (fun e => Frm.ownsRow_base HS.out.files y e))
     have HX := Lib.hid HBb.out.drew
     have HR := Lib.hid (Frm.ownsRow_keeps HFb.out (Keeps.refl wb).drew)
     have HNG : Hid ((Value.slice po j co).ownBlock ≠ some q) := Lib.hid (fun e => Frm.ownsRow_ne HS.out.files HS.out.blk (by decide) e)
     have HNN : Hid (∀ y, (Value.slice pl l.length cl).ownBlock = some y → ¬ (y = q ∨ (Value.slice po j co).ownBlock = some y)) := Lib.hid (fun y hy hh => hh.elim (fun e => Frm.ownsRow_ne HS.out.now HS.out.blk (by decide) (by rw [hy, e])) (fun e => Ty.ne (owns_ty HS.out.files e) (owns_ty HS.out.now hy) (by decide) rfl))
     have hj1024 : j ≤ 1024 := by omega
     go_cut [] (fun wx => Hid (∃ p7 c7, Blk wx q 59 (rdA (rdN (rs ++ [filF (x, b, .slice pd b.length cd)]) l cap) (.slice p7 (j + 1) c7) (.slice pl l.length cl) (.slice none 0 0) (.slice none 0 0)) ∧ wx.ownsRow w.heap.size 93 3 (.slice p7 (j + 1) c7) (j + 1) (rs.flatMap filZ ++ [.string (bstr b), .string (bstr b), .slice none 0 0]) ∧ Mods (fun y => y = q ∨ (Value.slice po j co).ownBlock = some y) wb wx))
     case first =>
      refine wp_region_noPanic ?_
      refine wp_region_held_drew (S := fun w' => Mods (fun y => y = q ∨ (Value.slice po j co).ownBlock = some y) wb w') (by kernel_rfl) ((Mods.refl (fun y => y = q ∨ (Value.slice po j co).ownBlock = some y) wb).drew) (fun _ => ?_)
      have hHeld : Mods (fun y => y = q ∨ (Value.slice po j co).ownBlock = some y) wb (wb).drew := (Mods.refl (fun y => y = q ∨ (Value.slice po j co).ownBlock = some y) wb).drew
      generalize World.drew wb = xs at *
      refine tq 0 61 ?_
      refine tq 1 62 ?_
      refine tq 2 63 ?_
      refine tq 3 64 ?_
      refine tq 5 66 ?_
      refine tq 6 67 ?_ (hy := fun w' hSw => by
       have hSw : Mods (fun y => y = q ∨ (Value.slice po j co).ownBlock = some y) wb w' := hSw
       have hBq := HAb.out.mods hSw (fun hh => hh.elim (fun e => HAq.out e) HAf.out)
       have hx1 : World.cell? w' ⟨A, 1, none⟩ = some (.slice pd b.length cd) := by rw [hBq.cell]; rfl
       clear hSw
       go_simp
       try with_reducible rfl)
      refine tq 7 68 ?_ (hy := fun w' hSw => by
       have hSw : Mods (fun y => y = q ∨ (Value.slice po j co).ownBlock = some y) wb w' := hSw
       have hc := Frm.str_at' (HDB.out.keeps (hSw.keeps HKb.out HTW.out))
       clear hSw
       go_simp
       try with_reducible rfl)
      refine tq 8 69 ?_
      refine tq 9 70 ?_ (hy := fun w' hSw => by
       have hSw : Mods (fun y => y = q ∨ (Value.slice po j co).ownBlock = some y) wb w' := hSw
       have hBq := HAb.out.mods hSw (fun hh => hh.elim (fun e => HAq.out e) HAf.out)
       have hx1 : World.cell? w' ⟨A, 1, none⟩ = some (.slice pd b.length cd) := by rw [hBq.cell]; rfl
       clear hSw
       go_simp
       try with_reducible rfl)
      refine tq 10 71 ?_ (hy := fun w' hSw => by
       have hSw : Mods (fun y => y = q ∨ (Value.slice po j co).ownBlock = some y) wb w' := hSw
       have hc := Frm.str_at' (HDB.out.keeps (hSw.keeps HKb.out HTW.out))
       clear hSw
       go_simp
       try with_reducible rfl)
      refine tq 11 72 ?_
      refine wpAnyH_ready (rs := [4, 12]) (by kernel_rfl) (by simp) ?_
      refine AllReadyH.cons (o := _) rfl (fun K hK => ?_) ?_
      ·have hx : World.cell? xs ⟨q, 0, none⟩ = some (Value.slice po j co) := by rw [HX.out.cell]; rfl
       go_simp
       clear hx
       have hb := hHeld
       refine bkm hK hb ?_
       clear hK K hHeld
       have hHeld : Mods (fun y => y = q ∨ (Value.slice po j co).ownBlock = some y) wb xs := hb
       clear hb
       refine rd1 12 (fun K hK => ?_)
       go_simp
       obtain ⟨b6, hb6⟩ : ∃ z, z = (World.heap xs).size := ⟨_, rfl⟩
       have HB6 : Hid (Blk (World.alloc xs (.cells #[.string (bstr b), .string (bstr b), .slice none 0 0] 93)) b6 93 #[.string (bstr b), .string (bstr b), .slice none 0 0]) := Lib.hid (Blk.new _ _ _ hb6)
       have HX := Lib.hid (HX.out.alloc (.cells #[.string (bstr b), .string (bstr b), .slice none 0 0] 93))
       have HR := Lib.hid (Frm.ownsRow_keeps HR.out ((Keeps.refl _).alloc (.cells #[.string (bstr b), .string (bstr b), .slice none 0 0] 93)))
       have hb := hHeld.alloc (.cells #[.string (bstr b), .string (bstr b), .slice none 0 0] 93)
       have HBB := Lib.hid hb6
       have HZ6 := Lib.hid hHeld.size
       clear hb6
       generalize World.alloc xs (.cells #[.string (bstr b), .string (bstr b), .slice none 0 0] 93) = x12 at *
       refine bkm hK hb ?_
       clear hK K hHeld
       have hHeld : Mods (fun y => y = q ∨ (Value.slice po j co).ownBlock = some y) wb x12 := hb
       clear hb
       refine rd1 13 (fun K hK => ?_)
       refine step_appF (base := w.heap.size) filok (by decide) rfl _ _ rfl (Value.slice po j co) j 1 1 ⟨b6, 0, none⟩ (rs.flatMap filZ) [.string (bstr b), .string (bstr b), .slice none 0 0] rfl (congrArg (fun g => Value.slice (some ⟨g, 0, none⟩) 1 1) HBB.out.symm) HR.out rfl (fun j y hy => by rw [Go.WideShapes.add_plain, HB6.out.cell, Nat.zero_add]; simpa using hy) (by simp [Value.oneCell']) (by omega) (by decide) (Nat.le_trans HKb.out.size hHeld.size) ?_
       intro v7 x13 ho7 hg7 hf7
       obtain ⟨p7, c7, rfl, -, -⟩ := Frm.ownsRow_form ho7
       have H7 := Lib.hid ho7
       have HX := Lib.hid (HX.out.grown hg7 HNG.out)
       have hb := hHeld.grown hg7 (fun k hk _ => .inr hk)
       clear ho7 hg7 hf7 HB6
       show K (Act.put _ (some 74) _) x13
       refine bkm hK hb ?_
       clear hK K hHeld
       have hHeld : Mods (fun y => y = q ∨ (Value.slice po j co).ownBlock = some y) wb x13 := hb
       clear hb
       refine tq 14 75 ?_
       refine tq 15 76 ?_
       refine rd1 16 (fun K hK => ?_)
       have hx : World.cell? x13 ⟨q, 0, none⟩ = some (Value.slice po j co) := by rw [HX.out.cell]; rfl
       have hz : World.frozen? x13 ⟨q, 0, none⟩ = false := HX.out.frozen 0
       go_simp
       have HX3 := Lib.hid (HX.out.set_ 0 (.slice p7 (j + 1) c7))
       have H7s := Lib.hid (Frm.ownsRow_mods (S := fun x => x = q) H7.out ((Mods.refl (fun x => x = q) _).setCell (p := ⟨q, 0, none⟩) (fun _ => rfl) (.slice p7 (j + 1) c7)) (fun x hx e => Frm.ownsRow_ne H7.out HX.out (by decide) (by rw [hx, e])))
       have hb := hHeld.setCell (p := ⟨q, 0, none⟩) (fun _ => .inl rfl) (.slice p7 (j + 1) c7)
       clear hx hz HX H7
       generalize World.setCell x13 ⟨q, 0, none⟩ (.slice p7 (j + 1) c7) = xF at *
       refine bkm hK hb ?_
       clear hK K hHeld
       have hHeld : Mods (fun y => y = q ∨ (Value.slice po j co).ownBlock = some y) wb xF := hb
       clear hb
       refine wpAnyH_done (by kernel_rfl) ?_ _
       refine NoPanic.normal ?_
       go_wp2_with fail
       go_meet
       exact Lib.hid ⟨p7, c7, HX3.out, H7s.out, hHeld⟩
      refine AllReadyH.cons (o := _) rfl (fun K hK => ?_) ?_
      ·go_simp
       obtain ⟨b6, hb6⟩ : ∃ z, z = (World.heap xs).size := ⟨_, rfl⟩
       have HB6 : Hid (Blk (World.alloc xs (.cells #[.string (bstr b), .string (bstr b), .slice none 0 0] 93)) b6 93 #[.string (bstr b), .string (bstr b), .slice none 0 0]) := Lib.hid (Blk.new _ _ _ hb6)
       have HX := Lib.hid (HX.out.alloc (.cells #[.string (bstr b), .string (bstr b), .slice none 0 0] 93))
       have HR := Lib.hid (Frm.ownsRow_keeps HR.out ((Keeps.refl _).alloc (.cells #[.string (bstr b), .string (bstr b), .slice none 0 0] 93)))
       have hb := hHeld.alloc (.cells #[.string (bstr b), .string (bstr b), .slice none 0 0] 93)
       have HBB := Lib.hid hb6
       have HZ6 := Lib.hid hHeld.size
       clear hb6
       generalize World.alloc xs (.cells #[.string (bstr b), .string (bstr b), .slice none 0 0] 93) = x12 at *
       refine bkm hK hb ?_
       clear hK K hHeld
       have hHeld : Mods (fun y => y = q ∨ (Value.slice po j co).ownBlock = some y) wb x12 := hb
       clear hb
       refine rd1 4 (fun K hK => ?_)
       have hx : World.cell? x12 ⟨q, 0, none⟩ = some (Value.slice po j co) := by rw [HX.out.cell]; rfl
       go_simp
       clear hx
       have hb := hHeld
       refine bkm hK hb ?_
       clear hK K hHeld
       have hHeld : Mods (fun y => y = q ∨ (Value.slice po j co).ownBlock = some y) wb x12 := hb
       clear hb
       refine rd1 13 (fun K hK => ?_)
       refine step_appF (base := w.heap.size) filok (by decide) rfl _ _ rfl (Value.slice po j co) j 1 1 ⟨b6, 0, none⟩ (rs.flatMap filZ) [.string (bstr b), .string (bstr b), .slice none 0 0] rfl (congrArg (fun g => Value.slice (some ⟨g, 0, none⟩) 1 1) HBB.out.symm) HR.out rfl (fun j y hy => by rw [Go.WideShapes.add_plain, HB6.out.cell, Nat.zero_add]; simpa using hy) (by simp [Value.oneCell']) (by omega) (by decide) (Nat.le_trans HKb.out.size hHeld.size) ?_
       intro v7 x13 ho7 hg7 hf7
       obtain ⟨p7, c7, rfl, -, -⟩ := Frm.ownsRow_form ho7
       have H7 := Lib.hid ho7
       have HX := Lib.hid (HX.out.grown hg7 HNG.out)
       have hb := hHeld.grown hg7 (fun k hk _ => .inr hk)
       clear ho7 hg7 hf7 HB6
       show K (Act.put _ (some 74) _) x13
       refine bkm hK hb ?_
       clear hK K hHeld
       have hHeld : Mods (fun y => y = q ∨ (Value.slice po j co).ownBlock = some y) wb x13 := hb
       clear hb
       refine tq 14 75 ?_
       refine tq 15 76 ?_
       refine rd1 16 (fun K hK => ?_)
       have hx : World.cell? x13 ⟨q, 0, none⟩ = some (Value.slice po j co) := by rw [HX.out.cell]; rfl
       have hz : World.frozen? x13 ⟨q, 0, none⟩ = false := HX.out.frozen 0
       go_simp
       have HX3 := Lib.hid (HX.out.set_ 0 (.slice p7 (j + 1) c7))
       have H7s := Lib.hid (Frm.ownsRow_mods (S := fun x => x = q) H7.out ((Mods.refl (fun x => x = q) _).setCell (p := ⟨q, 0, none⟩) (fun _ => rfl) (.slice p7 (j + 1) c7)) (fun x hx e => Frm.ownsRow_ne H7.out HX.out (by decide) (by rw [hx, e])))
       have hb := hHeld.setCell (p := ⟨q, 0, none⟩) (fun _ => .inl rfl) (.slice p7 (j + 1) c7)
       clear hx hz HX H7
       generalize World.setCell x13 ⟨q, 0, none⟩ (.slice p7 (j + 1) c7) = xF at *
       refine bkm hK hb ?_
       clear hK K hHeld
       have hHeld : Mods (fun y => y = q ∨ (Value.slice po j co).ownBlock = some y) wb xF := hb
       clear hb
       refine wpAnyH_done (by kernel_rfl) ?_ _
       refine NoPanic.normal ?_
       go_wp2_with fail
       go_meet
       exact Lib.hid ⟨p7, c7, HX3.out, H7s.out, hHeld⟩
      exact AllReadyH.nil
     case rest =>
     obtain ⟨p7, c7, hb7, ho7, hm7⟩ := hcut.out
     obtain ⟨wc, rfl⟩ : ∃ z : World, z = wc := ⟨_, rfl⟩
     have HAc := Lib.hid (HAb.out.mods hm7 (fun hh => hh.elim (fun e => HAq.out e) HAf.out))
     have HNc := Lib.hid (HNb.out.mods hm7 HNN.out)
     have HKc := Lib.hid (hm7.keeps HKb.out HTW.out)
     have HBc := Lib.hid hb7
     have HOc := Lib.hid ho7
     clear hcut hb7 ho7 hm7 HX HR
     go_upto_region 13 with fail
     have HX := Lib.hid HBc.out.drew
     have HND := Lib.hid (HNc.out.mods (Mods.of_keeps (S := fun _ => False) (Keeps.refl wc).drew) (fun _ _ h => h))
     have hll := HS.out.ll
     refine wp_region_noPanic ?_
     refine wp_region_held_drew (S := fun w' => Mods (· = q) wc w') (by kernel_rfl) ((Mods.refl (· = q) wc).drew) (fun _ => ?_)
     have hHeld : Mods (· = q) wc (wc).drew := (Mods.refl (· = q) wc).drew
     generalize World.drew wc = xs at *
     refine tq 0 77 ?_
     refine tq 1 78 ?_
     refine tq 2 79 ?_
     refine tq 3 80 ?_
     refine tq 5 82 ?_
     refine tq 6 83 ?_ (hy := fun w' hSw => by
      have hSw : Mods (· = q) wc w' := hSw
      have hBq := HAc.out.mods hSw (fun e => HAq.out e)
      have hx1 : World.cell? w' ⟨A, 0, none⟩ = some (.string (bstr x)) := by rw [hBq.cell]; rfl
      clear hSw
      go_simp
      try with_reducible rfl)
     refine tq 7 84 ?_
     refine tq 8 85 ?_
     refine rd1 4 (fun K hK => ?_)
     have hx : World.cell? xs ⟨q, 1, none⟩ = some (Value.slice pl l.length cl) := by rw [HX.out.cell]; rfl
     go_simp
     clear hx
     have hb := hHeld
     refine bkm hK hb ?_
     clear hK K hHeld
     have hHeld : Mods (· = q) wc xs := hb
     clear hb
     refine rd1 9 (fun K hK => ?_)
     go_simp
     refine (put_r _ (NmsOwn.at_ HND.out) HS.out.asc x j (by omega)).mono ?_
     rintro e x9 ⟨v9, rfl, ho9, hk9⟩
     obtain ⟨p9, c9, rfl, -, -⟩ := Frm.ownsRow_form ho9
     have H9 := Lib.hid (show NmsOwn x9 w.heap.size (.slice p9 (putN l x j).length c9) (putN l x j) from ⟨ho9.1, ho9.2.elim Or.inl (fun ⟨q', cap', cur, hv, hq', r⟩ => Or.inr ⟨q', cap', cur, hv, Nat.le_trans (Nat.le_trans HKc.out.size hHeld.size) hq', r⟩)⟩)
     have HX := Lib.hid (HX.out.keeps hk9)
     have hb := hHeld.trans (Mods.of_keeps hk9) (fun _ h _ => h)
     clear ho9 hk9
     go_wp2_with fail
     refine bkm hK hb ?_
     clear hK K hHeld
     have hHeld : Mods (· = q) wc x9 := hb
     clear hb
     refine tq 10 87 ?_
     refine tq 11 88 ?_
     refine rd1 12 (fun K hK => ?_)
     have hx : World.cell? x9 ⟨q, 1, none⟩ = some (Value.slice pl l.length cl) := by rw [HX.out.cell]; rfl
     have hz : World.frozen? x9 ⟨q, 1, none⟩ = false := HX.out.frozen 1
     go_simp
     have HX3 := Lib.hid (HX.out.set_ 1 (.slice p9 (putN l x j).length c9))
     have H9s := Lib.hid (H9.out.mods ((Mods.refl (fun x => x = q) _).setCell (p := ⟨q, 1, none⟩) (fun _ => rfl) (.slice p9 (putN l x j).length c9)) (fun x hx e => Frm.ownsRow_ne H9.out HX.out (by decide) (by rw [hx, e])))
     have hb := hHeld.setCell (p := ⟨q, 1, none⟩) (fun _ => rfl) (.slice p9 (putN l x j).length c9)
     clear hx hz HX H9
     generalize World.setCell x9 ⟨q, 1, none⟩ (.slice p9 (putN l x j).length c9) = xF at *
     refine bkm hK hb ?_
     clear hK K hHeld
     have hHeld : Mods (· = q) wc xF := hb
     clear hb
     refine wpAnyH_done (by kernel_rfl) ?_ _
     refine NoPanic.normal ?_
     have HOF := Lib.hid (Frm.ownsRow_mods HOc.out hHeld (fun y hy e => Frm.ownsRow_ne HOc.out HBc.out (by decide) (by rw [hy, e])))
     have HE := Lib.hid (rnew_more HS.out (f := (x, b, .slice pd b.length cd)) HX3.out (by rw [List.flatMap_append]; exact HOF.out) H9s.out (hHeld.keeps HKc.out (fun y hy => by subst hy; exact HS.out.qW)) (by show b.length ≤ _; omega) (by show (u : Int) + (b.length : Int) ≤ cap; omega) HD4.out.symm)
     go_wp2_with fail
     go_roundw
     case rel => exact ⟨j + 1, u + b.length, by simp, by omega, by simp, Lib.hid ⟨_, _, _, _, _, _, _, HE.out⟩⟩
     case measure =>
      simp only [RowKit.intOf]
      omega
  ·obtain rfl : j = n := by omega
   have hlt' : decide ((j : Int) < (j : Int)) = false := by simp
   have hs := HS.out
   rw [HN.out] at hs
   have HE := Lib.hid (rnew_end (nv := .slice pl nl cl) hs HCC.out)
   have c1 : wo.cell? ⟨q, 1, none⟩ = some (.slice pl nl cl) := by rw [HS.out.blk.cell]; rfl
   have c2 : wo.cell? ⟨q, 2, none⟩ = some (.slice none 0 0) := by rw [HS.out.blk.cell]; rfl
   have z2 : wo.frozen? ⟨q, 2, none⟩ = false := HS.out.blk.frozen _
   clear hs
   go_wp2_with fail
   go_ret
   have he := HE.out
   rw [← HN.out] at he
   exact he
end Rf
end Go.Proofs.YtchjncnolmiejaaGreat

/- TxlogPlays' walk: what it leans on. -/
namespace Go.Proofs.YtchjncnolmiejaaGreat
open Go.RowKit
namespace Txl
open Vd Rf Rs Frm
open Go.Maps
theorem repN_len : ∀ (k n : Nat) (fs : List Fr1), (replayN k n fs).1.length ≤ k
 | 0, _, _ => Nat.le_refl _
 | k + 1, n, fs => by
  cases h : oneK n fs with
  | none => rw [replayN_none h]; exact Nat.zero_le _
  | some c =>
   rw [replayN_some h]
   have := repN_len k (n + 1) (fs.drop (c + 2))
   simp only [List.length_cons]
   omega
theorem rep_len (s : Str) : (rep s).1.length ≤ s.length := Nat.le_trans (repN_len _ _ _) (rowR_all s).2.2
section
variable {L : List Nat} {W w w' : World} {g m : Nat} {d : Dsk} {r : RDsk} {k c : Nat}
theorem open_fit (h : TwoAt L W w g d m r k) {d2 : Dsk} (hd : DR d2 r c) (x : Str) : (openR r x).2.2.length ≤ 1000000000 := by
 obtain ⟨S, M, h⟩ := h
 obtain ⟨fv, nv, sv, wv, fw, hi⟩ := h.ref
 unfold openR
 split
 ·exact Nat.zero_le _
 ·split
  ·exact Nat.zero_le _
  ·rename_i i hl
   have hif := file_of hd hl
   show (filAt r i).now.length ≤ _
   rw [filAt_get hif]
   exact (hi.fit.b _ (List.getElem_mem hif)).1
theorem new_few {fs : List FileX} {cap : Int} {d : Dsk} (hf : fs.length ≤ 1) (h : newD fs cap = some d) : Few d 1 ∧ d.nodes.length ≤ 1 := by
 unfold newD at h
 by_cases hc : cap < 1 ∨ 4194304 < cap ∨ 1024 < fs.length
 ·rw [if_pos hc] at h
  cases h
 rw [if_neg hc] at h
 match fs, hf with
 | [], _ =>
  cases h
  exact ⟨⟨by show (0 : Int) ≤ 0; omega, by show (0 : Int) ≤ 1; omega, Nat.zero_le _, Nat.zero_le _, fun y hy => absurd hy (List.not_mem_nil), Nat.zero_le _, Nat.zero_le _⟩, Nat.zero_le _⟩
 | [f], _ =>
  rw [newF_cons] at h
  split at h
  ·cases h
  ·split at h
   ·cases h
   ·split at h
    ·cases h
    ·cases h
     exact ⟨⟨by show (0 : Int) ≤ 0; omega, by show (0 : Int) ≤ 1; omega, Nat.zero_le _, Nat.le_refl _, fun y hy => by simp at hy; subst hy; exact Nat.zero_le _, Nat.le_refl _, Nat.le_refl _⟩, Nat.le_refl _⟩
/-- beside a disk there comes the document's -/
theorem two_born (h : DiskAt w (Rng W.heap.size w) g d) (hkw : Keeps W w) (hf : Few d k) {m k' : Nat} (hk : Keeps w w') (hr : RefAt w' (fun y => w.heap.size ≤ y ∧ y < w'.heap.size) m r k') (hkk : k ≤ k') : TwoAt [] W w' g d m r k' :=
 ⟨Rng W.heap.size w, fun y => w.heap.size ≤ y ∧ y < w'.heap.size,
  {dsk := h.keeps hk
   ref := hr
   ap := fun y hy hh => by have := hy.2; omega
   ls := fun y hy => ⟨hy.1, Nat.lt_of_lt_of_le hy.2 hk.size, List.not_mem_nil⟩
   lm := fun y hy => ⟨Nat.le_trans hkw.size hy.1, hy.2, List.not_mem_nil⟩
   ll := fun y hy => absurd hy (List.not_mem_nil)
   keep := hkw.trans hk
   few := hf.mono hkk }⟩
end
section
variable {L : List Nat} {W w w' : World} {g m lb mb n N : Nat} {d : Dsk} {r : RDsk} {k c : Nat} {wh : Bool} {e : Ending}
theorem open_no {d1 : Dsk} {e1 : Int} {s : Str} {x : Str} (he : e1 ≠ 0) (h : OpenTwo L W w g x (d1, e1, s) m r k e w') : e = .returned (.tuple #[.pointer none, .slice none 0 0, .int .i64 e1]) ∧ TwoAt L W w' g d1 m r k ∧ Mods (fun y => W.heap.size ≤ y ∧ y ∉ L) w w' := by
 rcases h with h | h
 ·exact h.2
 ·exact absurd h.1 he
theorem open_yes {d1 : Dsk} {s : Str} {x : Str} (h : OpenTwo L W w g x (d1, 0, s) m r k e w') : ∃ b pt ct X, e = .returned (.tuple #[.pointer (some ⟨b, 0, none⟩), .slice pt X.length ct, .int .i64 0]) ∧ w.heap.size ≤ b ∧ TwoAt (b :: L) W w' g d1 m r k ∧ Mods (fun y => W.heap.size ≤ y ∧ y ∉ L) w w' ∧ Blk w' b 100 (logA g x (rep s).1.length (decide ((rep s).2 = (s.length : Int)))) ∧ TxsAt w' w.heap.size (.slice pt X.length ct) X ∧ X.map txP = (rep s).1 := by
 rcases h with h | ⟨-, b, tv, X, h1, h2, h3, h4, h5, h6, h7⟩
 ·exact absurd rfl h.1
 ·obtain ⟨pt, ct, rfl, -, -⟩ := h6.r.form
  exact ⟨b, pt, ct, X, h1, h2, h3, h4, h5, h6, h7⟩
theorem mopen_no {r1 : RDsk} {e1 : Int} {s : Str} (he : e1 ≠ 0) (h : MOpen L W w g d m mb n wh (r1, e1, s) k e w') : e = .returned (.tuple #[.slice none 0 0, .int .i64 e1]) ∧ TwoAt L W w' g d m r1 k ∧ Blk w' mb 35 (modelA m n wh) ∧ Mods (fun y => W.heap.size ≤ y ∧ (y ∉ L ∨ y = mb)) w w' := by
 rcases h with h | h
 ·exact h.2
 ·exact absurd h.1 he
theorem mopen_yes {r1 : RDsk} {s : Str} (h : MOpen L W w g d m mb n wh (r1, 0, s) k e w') : ∃ pu cu Y, e = .returned (.tuple #[.slice pu Y.length cu, .int .i64 0]) ∧ TwoAt L W w' g d m r1 k ∧ Blk w' mb 35 (modelA m (rep s).1.length (decide ((rep s).2 = (s.length : Int)))) ∧ Mods (fun y => W.heap.size ≤ y ∧ (y ∉ L ∨ y = mb)) w w' ∧ TxsR w' (.slice pu Y.length cu) Y ∧ Y.map txP = (rep s).1 ∧ (s ≠ [] → Mods (· = mb) w w') := by
 rcases h with h | ⟨-, uv, Y, h1, h2, h3, h4, h5, h6, h7⟩
 ·exact absurd rfl h.1
 ·obtain ⟨pu, cu, rfl, -, -⟩ := h5.form
  exact ⟨pu, cu, Y, h1, h2, h3, h4, h5, h6, h7⟩
theorem txs_stay {base : Nat} {v : Value} {X : List TxX} {s : Str} {cs : Array Value} (h : TxsAt w base v X) (he : X.map txP = (rep s).1) (hB : Blk w mb 35 cs) (hm : s ≠ [] → Mods (· = mb) w w') : TxsR w' v X := by
 by_cases hs : s = []
 ·subst hs
  rw [rep_nil] at he
  have hx : X = [] := List.map_eq_nil_iff.1 he
  subst hx
  exact txsR_none h.r w'
 ·exact (txs_apart h hB (hm hs)).r
theorem Pair.keeps (h : Pair L W w g d m r k c lb mb n wh) (hk : Keeps w w') : Pair L W w' g d m r k c lb mb n wh := { h with two := h.two.keeps hk, log := h.log.keeps hk, mod := h.mod.keeps hk }
theorem Pair.more {k' c' : Nat} (h : Pair L W w g d m r k c lb mb n wh) (hk : k ≤ k') (hc : c ≤ c') : Pair L W w g d m r k' c' lb mb n wh := { h with two := h.two.more hk, dr := h.dr.more hc }
theorem Pair.calls (h : Pair L W w g d m r k c lb mb n wh) : w.cell? ⟨m, 6, none⟩ = some (.int .i64 d.count) := by
 obtain ⟨fv, nv, sv, wv, hB⟩ := h.two.counter
 rw [hB.cell, h.dr.count]
 rfl
theorem Pair.mn (h : Pair L W w g d m r k c lb mb n wh) : w.cell? ⟨mb, 1, none⟩ = some (.int .i64 (n : Int)) := by rw [h.mod.cell]; rfl
theorem Pair.mw (h : Pair L W w g d m r k c lb mb n wh) : w.cell? ⟨mb, 2, none⟩ = some (.bool wh) := by rw [h.mod.cell]; rfl
theorem Pair.aside (h : Pair L W w g d m r k c lb mb n wh) (hk : Keeps w w') {q : Nat} (hq : w.heap.size ≤ q) (hq2 : q < w'.heap.size) : Pair (q :: L) W w' g d m r k c lb mb n wh := { h with two := h.two.aside hk hq hq2, log := h.log.keeps hk, mod := h.mod.keeps hk, l1 := List.mem_cons_of_mem _ h.l1, l2 := List.mem_cons_of_mem _ h.l2 }
theorem len_k (h : Pair L W w g d m r k c lb mb n wh) : Calls Tryz.prog 22 #[.pointer (some ⟨lb, 0, none⟩)] w fun e w' => e = .returned (.int .i64 (n : Int)) ∧ Keeps w w' := (len_any w h.log).mono (fun e w' hh => ⟨hh.1, by rw [← hh.2]; exact Keeps.refl _⟩)
theorem whole_k (h : Pair L W w g d m r k c lb mb n wh) : Calls Tryz.prog 23 #[.pointer (some ⟨lb, 0, none⟩)] w fun e w' => e = .returned (.bool wh) ∧ Keeps w w' := (whole_any w h.log).mono (fun e w' hh => ⟨hh.1, by rw [← hh.2]; exact Keeps.refl _⟩)
end
theorem actM17 : Mids Tryz.prog 47 5 := ⟨⟨_, Tryz.underlying47, rfl⟩, by kernel_rfl⟩
/-- the round's numbers, outside of it: omega reads every hypothesis of a walk -/
theorem kb {j : Nat} (h : j < 40) (a : Nat) {C : Nat} (ha : a ≤ 1000) (hC : 60000 ≤ C) : 300 * (j + 1) + a ≤ C := by omega
theorem cb {j : Nat} (h : j < 40) (a : Nat) {C : Nat} (ha : a ≤ 1000) (hC : 60000 ≤ C) : 100 * (j + 1) + a ≤ C := by omega
theorem ku {j : Nat} (a : Nat) (ha : a ≤ 300) : 300 * (j + 1) + a ≤ 300 * (j + 1 + 1) := by omega
theorem cup {j : Nat} (a : Nat) (ha : a ≤ 100) : 100 * (j + 1) + a ≤ 100 * (j + 1 + 1) := by omega
theorem nb {n j C : Nat} (h : n ≤ 1000000000 + j) (hj : j < 40) (hC : 2000000000 ≤ C) : n ≤ C := by omega
theorem nu {a b j : Nat} (h : a ≤ b + 1) (hb : b ≤ j + 2) : a ≤ j + 1 + 2 := by omega
theorem ns {a b j : Nat} (h : a ≤ b) (hb : b ≤ j + 2) : a ≤ j + 1 + 2 := by omega
theorem n1024 {a j : Nat} (h : a ≤ j + 2) (hj : j < 40) : a ≤ 1024 := by omega
theorem nn {a n j : Nat} (h : a ≤ n + 1) (hn : n ≤ 1000000000 + j) : a ≤ 1000000000 + (j + 1) := by omega
theorem ne_of {a x y : Nat} (h1 : a ≤ x) (h2 : y < a) : x ≠ y := by omega
theorem xl {a b c : Nat} (h : a = b) (h2 : b ≤ c) (h3 : c ≤ 1000000000) : a ≤ 1099511627776 := by omega
theorem modelM : Mids Tryz.prog 35 3 := ⟨⟨_, Tryz.underlying35, rfl⟩, by kernel_rfl⟩
theorem TpOk.up {w w' : World} {x : ActT} (h : TpOk w x) (k : Keeps w w') : TpOk w' x := h.keeps k
end Txl
end Go.Proofs.YtchjncnolmiejaaGreat

/- TxlogPlays' round. Written by gen_tpkinds.py. -/
namespace Go.Proofs.YtchjncnolmiejaaGreat
open Go.RowKit
namespace Txl
open Vd Rf Rs
open Sf (sMake sAppend sSwap rMake rAppend rSwap)
open Go.Maps
/-- a part of a function's code, by its path -/
def at_ : List Bool → Code → Code
 | [], c => c
 | false :: p, .seq a _ => at_ p a
 | true :: p, .seq _ b => at_ p b
 | false :: p, .cond _ a _ => at_ p a
 | true :: p, .cond _ _ b => at_ p b
 | _ :: p, .block _ c => at_ p c
 | _ :: p, .loop c => at_ p c
 | _ :: _, c => c
end Txl
end Go.Proofs.YtchjncnolmiejaaGreat

/- TxlogPlays' round. Written by gen_tpkinds.py. -/
namespace Go.Proofs.YtchjncnolmiejaaGreat
open Go.RowKit
namespace Txl
open Vd Rf Rs
open Sf (sMake sAppend sSwap rMake rAppend rSwap)
open Go.Maps
set_option maxRecDepth 100000 in
set_option maxHeartbeats 8000000 in
theorem kindx (W wa : World) (g m mb lb q n j : Nat) (wh : Bool) (d : Dsk) (r : RDsk) (L : List Nat) (its : List (Value × List UInt8)) (xk xn xc : Int) (h0 : ¬ xk = 0) (h1 : ¬ xk = 1) (h2 : ¬ xk = 2) (h3 : ¬ xk = 3) (h4 : ¬ xk = 4) (h5 : ¬ xk = 5) (pi pk : Option Addr) (ci ck : Nat) (ks : List Int) (HPa : Hid (Pair (q :: L) W wa g d m r (300 * (j + 1)) (100 * (j + 1)) lb mb n wh)) (HQ : Hid (Blk wa q 47 #[.int .i64 xk, .slice pi its.length ci, .int .i64 xn, .int .i64 xc, .slice pk ks.length ck])) (HIT : Hid (Row W (.slice pi its.length ci) (its.map (·.1)))) (HPY : Hid (∀ y ∈ its, Frm.payOk W y)) (HXN : Hid ((Lit.int .i64 xn).wf = true)) (HKS : Hid (Row W (.slice pk ks.length ck) (ks.map (Value.int .i64)))) (HN : Hid (d.nodes.length ≤ j + 2)) (HNN : Hid (n ≤ 1000000000 + j)) (HJ : Hid (j < 40)) (u0 u1 u2 u3 u4 u5 u6 u7 u8 u9 u14 u15 u16 u17 u18 u20 u21 u22 u23 u24 u25 u26 u27 u28 u29 u30 u31 u32 u33 u34 u35 u36 u37 u38 u39 u40 u41 u42 u43 u44 u45 u46 u47 u48 u49 u50 u51 u52 u53 u54 u55 u56 u57 u58 u59 u60 u61 u62 u63 u64 u65 u66 u67 u68 u69 u70 u71 u72 u73 u74 u75 u76 u77 u78 u79 u80 u81 u82 u83 u84 u85 u86 u87 u88 u89 u90 u91 u92 u93 u94 u95 u96 u97 u98 u99 u100 u101 u102 u103 u104 u105 u106 u107 u108 u109 u110 u111 u112 u113 u114 u115 u117 u118 u119 u120 u121 u122 u123 u124 u125 u126 u127 u128 u129 u130 u131 u132 u133 u134 u135 u136 u137 u138 u139 u140 u141 u142 u143 u144 u145 u146 u147 u148 u149 u150 u151 u152 u153 u154 u155 u156 u157 u158 u159 u160 u161 u162 u163 u164 u165 u166 u167 u168 u169 u170 u171 u172 u173 u174 u175 u176 u177 u178 u179 u180 u181 u182 u183 u184 u185 u186 u187 u188 u189 u190 u191 u192 u193 u194 u195 u196 u197 u198 u199 u200 u201 u202 u203 u204 u205 u206 u207 u208 u209 u210 u211 u212 u213 u214 u215 u216 u217 u218 u219 u220 u221 u222 u223 u224 u225 u226 u227 u228 u229 u230 u231 u232 u233 u234 u235 u236 u237 u238 u239 u240 u241 u242 u243 u244 u245 u246 u247 u248 u249 u250 u251 u252 u253 u254 u255 u256 u257 u258 u259 u260 u261 u262 u263 u264 u265 u266 u267 u268 u269 u270 u271 u272 u273 : Value) (sw : Code) (hsw : sw = at_ [true, true, true, true, true, true, true, true, true, true, true, true, false, true, false, false, true, false, false, true, false, true] (Tryz.f3.body.getD .skip)) (K : Act → World → Prop) (Q : Exit → Act → World → Prop) (HK : Hid (∀ (v13 v20 v21 v22 v23 v24 v25 v26 v27 v105 v106 v107 v108 v109 v110 v111 v112 v113 v114 v115 v116 v117 v118 v119 v120 v121 v122 v123 v124 v125 v126 v127 v128 v129 v130 v131 v132 v133 v134 v135 v136 v137 v138 v139 v140 v141 v142 v143 v144 v145 v146 v147 v148 v149 v150 v151 v152 v153 v154 v155 v156 v157 v158 v159 v160 v161 v162 v163 v164 v165 v166 v167 v168 v169 v170 v171 v172 v173 v174 v175 v176 v177 v178 v179 v180 v181 v182 v183 v184 v185 v186 v187 v188 v189 v190 v191 v192 v193 v194 v195 v196 v197 v198 v199 v200 v201 v202 v203 v204 v205 v206 v207 v208 v209 v210 v211 v212 v213 v214 v215 v216 v217 v218 v219 v220 v221 v222 v223 v224 v225 v226 v227 v228 v229 v230 v231 v232 v233 v234 v235 v236 v237 v238 v239 v240 v241 v242 v243 v244 v245 v246 v247 v248 v249 v250 v251 v252 v253 v254 v255 v256 v257 v258 v259 v260 v261 v262 v263 v264 v265 v266 v267 v268 v269 v270 v271 v272 v273 : Value) (wx : World), (∃ (L2 : List Nat) (lb2 n2 : Nat) (wh2 : Bool) (d2 : Dsk) (r2 : RDsk), v13 = .pointer (some ⟨lb2, 0, none⟩) ∧ Hid (Pair L2 W wx g d2 m r2 (300 * (j + 1 + 1)) (100 * (j + 1 + 1)) lb2 mb n2 wh2) ∧ Hid (d2.nodes.length ≤ j + 1 + 2) ∧ Hid (n2 ≤ 1000000000 + (j + 1))) → K ⟨#[u0, u1, u2, u3, u4, u5, u6, u7, u8, u9, .pointer (some ⟨g, 0, none⟩), .pointer (some ⟨m, 0, none⟩), .pointer (some ⟨mb, 0, none⟩), v13, u14, u15, u16, u17, u18, .pointer (some ⟨q, 0, none⟩), v20, v21, v22, v23, v24, v25, v26, v27, u28, u29, u30, u31, u32, u33, u34, u35, u36, u37, u38, u39, u40, u41, u42, u43, u44, u45, u46, u47, u48, u49, u50, u51, u52, u53, u54, u55, u56, u57, u58, u59, u60, u61, u62, u63, u64, u65, u66, u67, u68, u69, u70, u71, u72, u73, u74, u75, u76, u77, u78, u79, u80, u81, u82, u83, u84, u85, u86, u87, u88, u89, u90, u91, u92, u93, u94, u95, u96, u97, u98, u99, u100, u101, u102, u103, u104, v105, v106, v107, v108, v109, v110, v111, v112, v113, v114, v115, v116, v117, v118, v119, v120, v121, v122, v123, v124, v125, v126, v127, v128, v129, v130, v131, v132, v133, v134, v135, v136, v137, v138, v139, v140, v141, v142, v143, v144, v145, v146, v147, v148, v149, v150, v151, v152, v153, v154, v155, v156, v157, v158, v159, v160, v161, v162, v163, v164, v165, v166, v167, v168, v169, v170, v171, v172, v173, v174, v175, v176, v177, v178, v179, v180, v181, v182, v183, v184, v185, v186, v187, v188, v189, v190, v191, v192, v193, v194, v195, v196, v197, v198, v199, v200, v201, v202, v203, v204, v205, v206, v207, v208, v209, v210, v211, v212, v213, v214, v215, v216, v217, v218, v219, v220, v221, v222, v223, v224, v225, v226, v227, v228, v229, v230, v231, v232, v233, v234, v235, v236, v237, v238, v239, v240, v241, v242, v243, v244, v245, v246, v247, v248, v249, v250, v251, v252, v253, v254, v255, v256, v257, v258, v259, v260, v261, v262, v263, v264, v265, v266, v267, v268, v269, v270, v271, v272, v273], []⟩ wx)) : Code.wp Tryz.prog sw (Exit.then K Q) ⟨#[u0, u1, u2, u3, u4, u5, u6, u7, u8, u9, .pointer (some ⟨g, 0, none⟩), .pointer (some ⟨m, 0, none⟩), .pointer (some ⟨mb, 0, none⟩), .pointer (some ⟨lb, 0, none⟩), u14, u15, u16, u17, u18, .pointer (some ⟨q, 0, none⟩), u20, u21, u22, u23, u24, u25, u26, u27, u28, u29, u30, u31, u32, u33, u34, u35, u36, u37, u38, u39, u40, u41, u42, u43, u44, u45, u46, u47, u48, u49, u50, u51, u52, u53, u54, u55, u56, u57, u58, u59, u60, u61, u62, u63, u64, u65, u66, u67, u68, u69, u70, u71, u72, u73, u74, u75, u76, u77, u78, u79, u80, u81, u82, u83, u84, u85, u86, u87, u88, u89, u90, u91, u92, u93, u94, u95, u96, u97, u98, u99, u100, u101, u102, u103, u104, u105, u106, u107, u108, u109, u110, u111, u112, u113, u114, u115, .int .i64 xk, u117, u118, u119, u120, u121, u122, u123, u124, u125, u126, u127, u128, u129, u130, u131, u132, u133, u134, u135, u136, u137, u138, u139, u140, u141, u142, u143, u144, u145, u146, u147, u148, u149, u150, u151, u152, u153, u154, u155, u156, u157, u158, u159, u160, u161, u162, u163, u164, u165, u166, u167, u168, u169, u170, u171, u172, u173, u174, u175, u176, u177, u178, u179, u180, u181, u182, u183, u184, u185, u186, u187, u188, u189, u190, u191, u192, u193, u194, u195, u196, u197, u198, u199, u200, u201, u202, u203, u204, u205, u206, u207, u208, u209, u210, u211, u212, u213, u214, u215, u216, u217, u218, u219, u220, u221, u222, u223, u224, u225, u226, u227, u228, u229, u230, u231, u232, u233, u234, u235, u236, u237, u238, u239, u240, u241, u242, u243, u244, u245, u246, u247, u248, u249, u250, u251, u252, u253, u254, u255, u256, u257, u258, u259, u260, u261, u262, u263, u264, u265, u266, u267, u268, u269, u270, u271, u272, u273], []⟩ wa := by
 have HNI := Lib.hid (Sa.wf_in HXN.out)
 rw [hsw]
 dsimp only [at_, Tryz.f3, Option.getD]
 clear hsw
 have f0 : (xk == 0) = false := by simp [h0]
 have f1 : (xk == 1) = false := by simp [h1]
 have f2 : (xk == 2) = false := by simp [h2]
 have f3 : (xk == 3) = false := by simp [h3]
 have f4 : (xk == 4) = false := by simp [h4]
 have f5 : (xk == 5) = false := by simp [h5]
 clear h0 h1 h2 h3 h4 h5
 go_wp2_with fail
 refine HK.out _ _ _ _ _ _ _ _ _ _ _ _ _ _ _ _ _ _ _ _ _ _ _ _ _ _ _ _ _ _ _ _ _ _ _ _ _ _ _ _ _ _ _ _ _ _ _ _ _ _ _ _ _ _ _ _ _ _ _ _ _ _ _ _ _ _ _ _ _ _ _ _ _ _ _ _ _ _ _ _ _ _ _ _ _ _ _ _ _ _ _ _ _ _ _ _ _ _ _ _ _ _ _ _ _ _ _ _ _ _ _ _ _ _ _ _ _ _ _ _ _ _ _ _ _ _ _ _ _ _ _ _ _ _ _ _ _ _ _ _ _ _ _ _ _ _ _ _ _ _ _ _ _ _ _ _ _ _ _ _ _ _ _ _ _ _ _ _ _ _ _ _ _ _ _ _ _ _ _ ?_
 go_light
 exact ⟨_, lb, n, wh, d, r, rfl, Lib.hid (HPa.out.more (by omega) (by omega)), Lib.hid (by have := HN.out; omega), Lib.hid (by have := HNN.out; omega)⟩
end Txl
end Go.Proofs.YtchjncnolmiejaaGreat
