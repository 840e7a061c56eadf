/- BodiesKeeps: its walk. -/
import Derived.Test.YtklbemkafdccgaaGreatK49
import Derived.Test.YtklbemkafdccgaaGreatK46
import Derived.Test.YtklbemkafdccgaaGreatK35
namespace Go.Proofs.YtklbemkafdccgaaGreat
open Go.RowKit
namespace Bds
open Oct Frm
open Vd (Dsk)
open Rs (strV)
/-- what Keep leaves, be it that all stays or not -/
theorem keep_aft {L : List Nat} {W w w' : World} {g gd n k : Nat} {s : BdP} {d : Dsk} {l : List Int} {e : Ending} (h : KeepDid L W w g gd n k s d l e w') (hb : BdAt L W w g gd n s d k) (hup : Up s) (hbr : s.broken = 0) (hl : ∀ x ∈ s.L, x.2.length ≤ 3000) (hs : s.L.length ≤ 30) (hn : n ≤ 1000) (hk : k ≤ 99) :
  ∃ (on : Nat) (s2 : BdP) (n2 : Nat) (d2 : Dsk) (k2 : Nat), e = .returned (.tuple #[.int .i64 (on : Int), .int .i64 0]) ∧ on ≤ s.L.length ∧ Aft s s2 l ∧ BdAt L W w' g gd n2 s2 d2 k2 ∧ n2 ≤ 1000000 ∧ k2 ≤ 200 ∧ Mods (fun y => W.heap.size ≤ y ∧ y ∉ L) w w' := by
 rcases h with ⟨h0, rfl, hk2⟩ | ⟨h0, rfl, n2, hn2, h1, h2⟩
 ·exact ⟨0, s, n, d, k, rfl, Nat.zero_le _, aft_same hup hbr hl h0, hb.keeps hk2, by omega, by omega, Mods.of_keeps hk2⟩
 ·have hL : s.L ≠ [] := fun e => by
   unfold outB at h0
   rw [e] at h0
   simp at h0
  have ha := aft_kept (l := l) hup hl hL
  have h3 := framesB_len (fullB s l) ha.big
  have h4 := hup.len (l := l) hL
  have h5 : 7000 * (fullB s l).length ≤ 7000 * 30 := Nat.mul_le_mul_left _ (by omega)
  exact ⟨_, _, n2, _, _, rfl, Nat.sub_le _ _, ha, h1, by omega, by omega, h2⟩
theorem mem_take_succ {l : List Int} {x : Int} {k : Nat} (hk : k < l.length) : decide (x ∈ l.take (k + 1)) = (decide (x ∈ l.take k) || (l[k] == x)) := by
 rw [Bool.eq_iff_iff, Bool.or_eq_true, decide_eq_true_eq, decide_eq_true_eq, beq_iff_eq, List.take_succ_eq_append_getElem hk, List.mem_append, List.mem_singleton]
 exact ⟨fun h => h.imp id Eq.symm, fun h => h.imp id Eq.symm⟩
set_option maxRecDepth 100000 in
set_option maxHeartbeats 8000000 in
theorem bodiesKeeps_walk (W : World) (v : Value) (l : List (Value × List UInt8)) (v1 : Value) (st : List Int) (r0 : RowS W 1 v l.length (l.flatMap payC)) (w0 : ∀ y ∈ l, payOk W y) (w1 : ∀ x ∈ st, (Lit.int .i64 x).wf = true) (r1 : Row W v1 (st.map (.int .i64))) : Calls Tryz.prog 6 #[v, v1] W fun e w' => e = .returned (.bool true) ∧ Keeps W w' := by
 have hr : Row W v (l.map (·.1)) := by
  have := r0.row
  rw [pay_map] at this
  exact this
 obtain ⟨p, cap, rfl, -, -⟩ := r0.form
 obtain ⟨p1, cap1, rfl, -, -⟩ := r1.form
 rw [List.length_map] at r1 ⊢
 have HR := Lib.hid hr
 have HP := Lib.hid w0
 have HS1 := Lib.hid r1
 have HAW := Lib.hid (awake19_any W)
 clear hr w0 r0 w1 r1
 go_enter Tryz.func6, Tryz.ntmps6
 go_wp2_with fail
 refine HAW.out.mono ?_
 rintro e w1 ⟨rfl, hk1⟩
 have HK1 := Lib.hid hk1
 clear hk1 HAW
 by_cases h30 : 30 < l.length
 ·go_wp2_with fail
  go_ret
  exact ⟨rfl, HK1.out⟩
 have HBK := Lib.hid (Txl.bulkD_any 3000 (by omega) (.slice p l.length cap) l w1 (HR.out.keeps HK1.out) (fun y hy => (HP.out y hy).keeps HK1.out))
 rw [show ((3000 : Nat) : Int) = 3000 from rfl] at HBK
 unfold Txl.BulkD at HBK
 go_wp2_with fail
 refine HBK.out.mono ?_
 rintro e w9 ⟨bk, rfl, hbk, hbs, rfl⟩
 by_cases hb1 : 3000 < bk
 ·go_wp2_with fail
  go_ret
  exact ⟨rfl, HK1.out⟩
 by_cases h60 : 60 < st.length
 ·go_wp2_with fail
  go_ret
  exact ⟨rfl, HK1.out⟩
 obtain ⟨T, hT⟩ : ∃ T : List Str, T = l.map (·.2) := ⟨_, rfl⟩
 have HT := Lib.hid hT
 have HTL := Lib.hid (show T.length = l.length from by rw [hT, List.length_map])
 have HSM := Lib.hid (show Small T from ⟨by rw [hT, List.length_map]; omega, fun x hx => by
  rw [hT] at hx
  obtain ⟨y, hy, rfl⟩ := List.mem_map.1 hx
  exact hbs (by omega) y hy⟩)
 have hl30 : l.length ≤ 30 := by omega
 have hs60 : st.length ≤ 60 := by omega
 clear hT hbs HBK
 have HNW := Lib.hid (Vd.new_at HK1.out (.slice none 0 0) [] (Vd.rowS_none _) (fun f hf => absurd hf (List.not_mem_nil)) 1048576)
 unfold Vd.NewAt at HNW
 rw [dNew_is 1048576 (by omega) (by omega)] at HNW
 go_wp2_with fail
 refine HNW.out.mono ?_
 rintro e w3 ⟨hk, gd, rfl, hd⟩
 have H3 := Lib.hid (show Vd.At W w3 gd (dNew 1048576) 1 from ⟨hd, hk, few_new _⟩)
 clear hd hk HNW HK1
 have HOP := Lib.hid (bopen_new (Txl.At.one H3.out) (by omega) (by omega))
 go_wp2_with fail
 refine HOP.out.mono ?_
 rintro e w4 ⟨g, rfl, h4⟩
 have H4 := Lib.hid (show BdAt [] W w4 g gd 0 (putAt T 0) (DL T 0 _) (9 + 3 * 0) from h4)
 clear h4 HOP H3
 go_wp2_with fail
 go_loopw [8] (fun iv wr => ∃ (j : Nat) (c : Int), iv = .int .i64 (j : Int) ∧ j ≤ l.length ∧ Hid (BdAt [] W wr g gd j (putAt T j) (DL T j c) (9 + 3 * j))) (fun iv _ => l.length - (intOf iv).toNat)
 case atStart => exact ⟨0, _, rfl, Nat.zero_le _, H4⟩
 case round =>
  obtain ⟨j, c, rfl, hj, HO⟩ := hrel
  obtain ⟨wz, rfl⟩ : ∃ z : World, z = wr := ⟨_, rfl⟩
  clear H4
  have HK := Lib.hid (show Keeps W wz from HO.out.kp)
  by_cases hlt : j < l.length
  ·have hjT : j < T.length := by rw [HTL.out]; exact hlt
   have hwj : IntKind.i64.wrap ((j : Int) + 1) = (j : Int) + 1 := IntWalk.i64_in _ (by omega)
   obtain ⟨bl, off, cap', hv, hc⟩ := row_cells HR.out (by rw [List.length_map]; omega)
   rw [List.length_map] at hv
   simp only [Value.slice.injEq] at hv
   obtain ⟨rfl, -, rfl⟩ := hv
   have hcell : wz.cell? ⟨bl, off + j, none⟩ = some l[j].1 := by
    have := hc.out j l[j].1 (by simp [hlt])
    rw [HK.out.cell (p := ⟨bl, off + j, none⟩) (lt_of_cell this)]
    exact this
   have hgood := HP.out l[j] (List.getElem_mem hlt)
   have HTJ := Lib.hid (show T[j] = l[j].2 from by
    have := HT.out
    subst this
    simp)
   clear hc
   generalize l[j] = y at *
   obtain ⟨yv, yl⟩ := y
   simp only at hcell hgood HTJ
   have HP1 := Lib.hid (put_at HO.out HSM.out hjT (v := yv) (fun T' w' hT' hm => by
    rw [HTJ.out]
    exact Row.keeps (w := W) hgood (hm.keeps HK.out (fun y hy => (hT' y hy).1))))
   clear hgood
   go_wp2_with fail
   refine HP1.out.mono ?_
   rintro e w5 ⟨rfl, c5, h5, -⟩
   have HB5 := Lib.hid h5
   clear h5 HP1
   go_wp2_with fail
   go_roundw
   case rel => exact ⟨j + 1, _, by simp, by omega, HB5⟩
   case measure => simp only [intOf]; omega
  ·have hd : decide ((j : Int) < (l.length : Int)) = false := decide_eq_false (by omega)
   have HGD := Lib.hid (small_at HSM.out (j := j) (by have := HTL.out; omega))
   have HDD : Hid (∃ a c, BdAt [] W wz g gd j (putAt T j) (Dk 1048576 a c) (9 + 3 * j) ∧ a.length ≤ 210000) := Lib.hid ⟨_, _, HO.out, HGD.out.2.2.1⟩
   generalize putAt T j = s at *
   obtain ⟨a, c2, hb, ha⟩ := HDD.out
   have HB := Lib.hid hb
   have HA := Lib.hid ha
   have HK9 := Lib.hid (show 9 + 3 * j ≤ 99 from by omega)
   obtain ⟨O, hst⟩ := hb.st
   have CN := Lib.hid (numbers_any hst (by omega))
   clear HO HDD hb ha hst
   generalize 9 + 3 * j = k9 at *
   go_wp2_with fail
   refine CN.out.mono ?_
   rintro e w5 ⟨nv, rfl, ho, hk5⟩
   rw [numsUp_of HGD.out.1.asc] at ho
   obtain ⟨np, nc, rfl, -, -⟩ := ho.row.form
   rw [List.length_map, show (keysB s).length = s.L.length from List.length_map _] at ho ⊢
   have HWA := Lib.hid ho
   have HB5 := Lib.hid (bd_new HB.out hk5 ho)
   have HK5 := Lib.hid (HK.out.trans hk5)
   obtain ⟨O5, hst5⟩ := HB5.out.st
   have CX := Lib.hid (next_any hst5)
   have hsl : s.L.length ≤ 30 := HGD.out.2.1
   clear ho hk5 hst5 CN HB
   go_wp2_with fail
   refine CX.out.mono ?_
   rintro e w6 ⟨rfl, rfl⟩
   go_wp2_with fail
   go_loopw [11, 12] (fun ov iv wr => ∃ (i : Nat), iv = .int .i64 (i : Int) ∧ Hid (i ≤ s.L.length ∧ (∃ L', BdAt L' W wr g gd j s (Dk 1048576 a c2) k9 ∧ (∀ y, (Value.slice np s.L.length nc).ownBlock = some y → y ∈ L') ∧ ∀ y, ov.ownBlock = some y → y ∈ L') ∧ Own wr wz.heap.size 3 (.slice np s.L.length nc) ((keysB s).map Go.encZ) ∧ Own wr w5.heap.size 9 ov ((s.L.take i).map fun x => strV x.2) ∧ w5.heap.size ≤ wr.heap.size)) (fun _ iv _ => s.L.length - (intOf iv).toNat)
   case atStart => exact ⟨0, rfl, Lib.hid ⟨Nat.zero_le _, ⟨_, HB5.out, fun y hy => ownL_mem.2 (.inl hy), fun y hy => by simp [Value.ownBlock] at hy⟩, HWA.out, Own.nil _ _ _, Nat.le_refl _⟩⟩
   case round =>
    obtain ⟨i, rfl, HI⟩ := hrel
    obtain ⟨wx, rfl⟩ : ∃ z : World, z = wr := ⟨_, rfl⟩
    have hol : ((s.L.take i).map fun x => strV x.2).length = i := by rw [List.length_map, List.length_take]; have := HI.out.1; omega
    obtain ⟨op, oc, hov, -, -⟩ := HI.out.2.2.2.1.row.form
    rw [hol] at hov
    subst hov
    have HOL := Lib.hid hol
    clear hol
    by_cases hlt2 : i < s.L.length
    ·have hd2 : decide ((i : Int) < (s.L.length : Int)) = true := decide_eq_true (by omega)
     have hwi : IntKind.i64.wrap ((i : Int) + 1) = (i : Int) + 1 := IntWalk.i64_in _ (by omega)
     obtain ⟨ga, ca', hv, -, -, -⟩ := Own.form HI.out.2.2.1 (by simp [keysB]; omega)
     simp only [List.length_map, Value.slice.injEq] at hv
     obtain ⟨rfl, -, rfl⟩ := hv
     have a0 : wx.cell? ⟨ga, i, none⟩ = some (.int .i64 s.L[i].1) := Own.cellAt HI.out.2.2.1 i _ (by simp [keysB, List.getElem?_eq_getElem hlt2, Go.encZ])
     have hmem := List.getElem_mem hlt2
     have HTK := Lib.hid (show (s.L.take (i + 1)).map (fun x => strV x.2) = (s.L.take i).map (fun x => strV x.2) ++ [strV s.L[i].2] from by rw [List.take_succ_eq_append_getElem hlt2, List.map_append]; rfl)
     have HBO := Lib.hid (show bodyOf s.L s.L[i].1 = some s.L[i].2 from HGD.out.1.body.2 hmem)
     have HPO := Lib.hid (HGD.out.1.pos hmem)
     have HBL := Lib.hid (HGD.out.2.2.2 _ hmem)
     have HKY := Lib.hid (show decide (s.L[i].1 ∈ keysB s) = true from decide_eq_true (List.mem_map.2 ⟨_, hmem, rfl⟩))
     clear hmem
     generalize s.L[i] = x at *
     obtain ⟨xn, xb⟩ := x
     simp only at a0 HTK HBO HPO HBL HKY
     obtain ⟨L', hb', hw', ho'⟩ := HI.out.2.1
     obtain ⟨O', hst'⟩ := hb'.st
     have CG := Lib.hid (get_any hst' (x := xn) (by have := HPO.out; simp [Lit.wf, IntKind.min, IntKind.max, IntKind.signed, IntKind.bits]; omega) (by rw [HBO.out]; have := HBL.out; simp only [Option.getD_some]; omega))
     rw [HBO.out, HKY.out] at CG
     simp only [Option.getD_some] at CG
     have HB' := Lib.hid hb'
     have HW' := Lib.hid hw'
     have HO' := Lib.hid ho'
     clear hb' hw' ho' hst'
     go_wp2_with fail
     refine CG.out.mono ?_
     rintro e wg ⟨gv, rfl, hog, hkg⟩
     obtain ⟨gp, gc, rfl, -, -⟩ := hog.row.form
     have hs1 := str_at' hog.row
     have HKG := Lib.hid hkg
     have HOG := Lib.hid (HI.out.2.2.2.1.keeps hkg)
     have HWG := Lib.hid (HI.out.2.2.1.keeps hkg)
     have HBG := Lib.hid (HB'.out.keeps hkg)
     have HGB := Lib.hid (show W.heap.size ≤ w5.heap.size ∧ w5.heap.size ≤ wg.heap.size ∧ ∀ y, (Value.slice (some ⟨ga, 0, none⟩) s.L.length nc).ownBlock = some y → y < w5.heap.size from ⟨HK5.out.size, Nat.le_trans HI.out.2.2.2.2 hkg.size, fun y hy => (own_lt HWA.out hy).2⟩)
     clear hkg CG a0
     rw [List.length_map] at hs1 ⊢
     go_upto_region 20 with (first | fail | (at_builtin; go_loud (refine wpList_app1 (base := w5.heap.size) Rs.strok1 rfl _ _ rfl (.slice op i oc) (.slice (some ⟨wg.heap.size, 0, none⟩) 1 1) ((s.L.take i).map fun x => strV x.2) [.string (bstr xb)] rfl rfl (HOG.out.alloc _) (row_one rfl) (by simp [Value.oneCell']) (by rw [HOL.out]; simp; omega) (by decide) (by rw [alloc_size]; have := HGB.out.2.1; omega) ?_); intro v4 w4 ho4 hg4 hf4; obtain ⟨p4, n4, c4, rfl⟩ := ho4.sl))
     have HVL := Lib.hid (show ∀ y, (Value.slice op i oc).ownBlock = some y → y ∈ L' ∧ W.heap.size ≤ y from fun y hy => ⟨HO'.out y hy, Nat.le_trans HGB.out.1 (own_lt HOG.out hy).1⟩)
     have HB4 := Lib.hid (bd_grow (HBG.out.keeps ((Keeps.refl wg).alloc (.cells #[.string (bstr xb)] 9))) HVL.out hg4 hf4 ho4)
     have HW4 := Lib.hid (Own.kept (HWG.out.alloc (.cells #[.string (bstr xb)] 9)) hg4 (.inr (fun e => by
      have h1 := HGB.out.2.2 ga rfl
      have h2 := (own_lt HOG.out (y := ga) e.symm).1
      omega)))
     have HO4 := Lib.hid (show Own w4 w5.heap.size 9 (.slice p4 n4 c4) ((s.L.take (i + 1)).map fun x => strV x.2) from by rw [HTK.out]; exact ho4)
     have HS4 := Lib.hid (show w5.heap.size ≤ w4.heap.size from by
      have h1 := HB4.out.kp
      have h2 := (((Mods.refl (fun _ => True) wg).alloc (.cells #[.string (bstr xb)] 9)).grown hg4 (fun _ _ _ => trivial)).size
      have h3 := HGB.out.2.1
      omega)
     clear ho4 hg4 hf4
     go_wp2_with fail
     go_roundw
     case rel => exact ⟨i + 1, by simp, Lib.hid ⟨by omega, ⟨_, HB4.out, fun y hy => ownL_mem.2 (.inr (HW'.out y hy)), fun y hy => ownL_mem.2 (.inl hy)⟩, HW4.out, HO4.out, HS4.out⟩⟩
     case measure => simp only [intOf]; omega
    ·have hd2 : decide ((i : Int) < (s.L.length : Int)) = false := decide_eq_false (by omega)
     have hie : i = s.L.length := by have := HI.out.1; omega
     obtain ⟨L', hb', hw', ho'⟩ := HI.out.2.1
     have HB' := Lib.hid hb'
     have HW' := Lib.hid hw'
     have HO' := Lib.hid ho'
     have HWX := Lib.hid HI.out.2.2.1
     have HOX := Lib.hid (show Own wx w5.heap.size 9 (.slice op i oc) (s.L.map fun x => strV x.2) from by
      have := HI.out.2.2.2.1
      rw [List.take_of_length_le (by omega)] at this
      exact this)
     have HIE := Lib.hid hie
     clear HI hb' hw' ho' hie HWA HB5 CX
     have HUP := Lib.hid (HGD.out.1.up (by omega))
     have CK := Lib.hid (keep_any HB'.out (by have := HK9.out; omega) (by omega) HUP.out (by omega) (fun x hx => by have := HGD.out.2.2.2 x hx; omega) (by have := HGD.out.2.2.1; omega) HGD.out.1.broken (v := .slice p1 st.length cap1) (l := st) (HS1.out.keeps HB'.out.kp) (by omega) (fun ho => sswap_dk (by
      have hL : s.L ≠ [] := fun e => by
       unfold outB at ho
       rw [e] at ho
       simp at ho
      have h1 := framesB_len (fullB s st) (aft_kept (l := st) HUP.out HGD.out.2.2.2 hL).big
      have h2 := HUP.out.len (l := st) hL
      have h3 := HA.out
      have h4 : 7000 * (fullB s st).length ≤ 7000 * 30 := Nat.mul_le_mul_left _ (by omega)
      omega)))
     go_wp2_with fail
     refine CK.out.mono ?_
     intro e w7 hd7
     obtain ⟨on, s2, n2, d2, k2, rfl, hon, haf, hb7, hn7, hk7, hm7⟩ := keep_aft hd7 HB'.out HUP.out HGD.out.1.broken HGD.out.2.2.2 hsl (by omega) HK9.out
     have HAF := Lib.hid haf
     have HB7 := Lib.hid hb7
     have HNK := Lib.hid (And.intro hn7 hk7)
     have HW7 := Lib.hid (rest_own hm7 HWX.out HW'.out)
     have HO7 := Lib.hid (rest_own hm7 HOX.out HO'.out)
     obtain ⟨O7, hst7⟩ := hb7.st
     have HST := Lib.hid hst7
     have CX2 := Lib.hid (next_any hst7)
     have CB2 := Lib.hid (broken_any hst7)
     rw [haf.next] at CX2
     rw [haf.broken] at CB2
     have hon2 : decide ((s.L.length : Int) < (on : Int)) = false := decide_eq_false (by omega)
     have hon3 : decide (s.L.length < on) = false := decide_eq_false (by omega)
     have hne : (s.next != s.next) = false := by simp
     clear haf hb7 hn7 hk7 hm7 hst7 hd7 CK HWX HOX HB' HW' HO'
     go_wp2_with fail
     refine CX2.out.mono ?_
     rintro e w8 ⟨rfl, rfl⟩
     go_wp2_with fail
     refine CB2.out.mono ?_
     rintro e w8 ⟨rfl, rfl⟩
     go_wp2_with fail
     go_loopw [17] (fun iv wr => ∃ (i : Nat), iv = .int .i64 (i : Int) ∧ Hid (i ≤ s.L.length ∧ Keeps w7 wr)) (fun iv _ => s.L.length - (intOf iv).toNat)
     case atStart => exact ⟨0, rfl, Lib.hid ⟨Nat.zero_le _, Keeps.refl _⟩⟩
     case round =>
      obtain ⟨m, rfl, HM⟩ := hrel
      obtain ⟨wy, rfl⟩ : ∃ z : World, z = wr := ⟨_, rfl⟩
      clear CX2 CB2
      by_cases hlt5 : m < s.L.length
      ·have hd5 : decide ((m : Int) < (s.L.length : Int)) = true := decide_eq_true (by omega)
       have hwm : IntKind.i64.wrap ((m : Int) + 1) = (m : Int) + 1 := IntWalk.i64_in _ (by omega)
       obtain ⟨ga, ca', hv, -, -, -⟩ := Own.form HW7.out (by simp [keysB]; omega)
       simp only [List.length_map, Value.slice.injEq] at hv
       obtain ⟨rfl, -, rfl⟩ := hv
       obtain ⟨gb, cb', hv, -, -, -⟩ := Own.form HO7.out (by simp; omega)
       simp only [List.length_map, Value.slice.injEq] at hv
       obtain ⟨rfl, -, rfl⟩ := hv
       have HWC := Lib.hid (fun (w' : World) (hk : Keeps w7 w') => show w'.cell? ⟨ga, m, none⟩ = some (.int .i64 s.L[m].1) from Own.cellAt (HW7.out.keeps hk) m _ (by simp [keysB, List.getElem?_eq_getElem hlt5, Go.encZ]))
       have HOC := Lib.hid (fun (w' : World) (hk : Keeps w7 w') => show w'.cell? ⟨gb, m, none⟩ = some (.string (bstr s.L[m].2)) from Own.cellAt (HO7.out.keeps hk) m _ (by simp [List.getElem?_eq_getElem hlt5, strV]))
       have hmem := List.getElem_mem hlt5
       have HSY := Lib.hid (HAF.out.stay _ hmem)
       have HGN := Lib.hid (HAF.out.gone _ hmem)
       have HPO := Lib.hid (HGD.out.1.pos hmem)
       have HBL := Lib.hid (HGD.out.2.2.2 _ hmem)
       have hmi : (m : Int) < (i : Int) := by rw [HIE.out]; omega
       clear hmem
       generalize s.L[m] = x at *
       obtain ⟨xn, xb⟩ := x
       simp only at HWC HOC HSY HGN HPO HBL
       go_wp2_with fail
       go_loopw [18, 19] (fun bv kv wr => ∃ (b : Bool) (k : Nat), bv = .bool b ∧ kv = .int .i64 (k : Int) ∧ Hid (b = decide (xn ∈ st.take k) ∧ k ≤ st.length ∧ Keeps w7 wr)) (fun _ kv _ => st.length - (intOf kv).toNat)
       case atStart => exact ⟨false, 0, rfl, rfl, Lib.hid ⟨by simp, Nat.zero_le _, HM.out.2⟩⟩
       case round =>
        obtain ⟨b, k, rfl, rfl, HQ⟩ := hrel
        obtain ⟨wq, rfl⟩ : ∃ z : World, z = wr := ⟨_, rfl⟩
        by_cases hlt6 : k < st.length
        ·have hd6 : decide ((k : Int) < (st.length : Int)) = true := decide_eq_true (by omega)
         have hwk : IntKind.i64.wrap ((k : Int) + 1) = (k : Int) + 1 := IntWalk.i64_in _ (by omega)
         obtain ⟨bl, off, cap', hv, hc⟩ := row_cells HS1.out (by rw [List.length_map]; omega)
         rw [List.length_map] at hv
         simp only [Value.slice.injEq] at hv
         obtain ⟨rfl, -, rfl⟩ := hv
         have HSC := Lib.hid (fun (w' : World) (hk : Keeps w7 w') => show w'.cell? ⟨bl, off + k, none⟩ = some (.int .i64 st[k]) from by
          have := hc.out k (.int .i64 st[k]) (by simp [hlt6])
          rw [(HB7.out.kp.trans hk).cell (p := ⟨bl, off + k, none⟩) (lt_of_cell this)]
          exact this)
         have HTS := Lib.hid (mem_take_succ (x := xn) hlt6)
         clear hc
         generalize st[k] = sk at *
         cases b with
         |true =>
          go_upto_region 33 with fail
          refine wp_region_noPanic ?_
          refine wp_region_held_drew (S := fun w' => Keeps (wq) w') (by kernel_rfl) ((Keeps.refl _).drew) (fun _ => ?_)
          have hHeld : Keeps (wq) (wq).drew := (Keeps.refl _).drew
          refine tq 0 122 ?_
          refine tq 1 123 ?_
          refine wpAnyH_take (i := 2) (v := undef) (by rfl) (by kernel_rfl) (by kernel_rfl) (by kernel_rfl) (by intro _ _ _ h; exact h) (Or.inr ⟨by kernel_rfl, rfl⟩) (by assumption) ?rest3
          change wpAnyH _ _ _ _ _ _ _ (Act.put _ (some 124) _) _
          try simp only [Act.put, List.setIfInBounds_toArray, List.set_cons_zero, List.set_cons_succ]
          refine wpAnyH_take (i := 3) (v := undef) (by rfl) (by kernel_rfl) (by kernel_rfl) (by kernel_rfl) (by intro _ _ _ h; exact h) (Or.inr ⟨by kernel_rfl, rfl⟩) (by assumption) ?rest4
          change wpAnyH _ _ _ _ _ _ _ (Act.put _ (some 125) _) _
          try simp only [Act.put, List.setIfInBounds_toArray, List.set_cons_zero, List.set_cons_succ]
          refine wpAnyH_take (i := 4) (v := undef) (by rfl) (by kernel_rfl) (by kernel_rfl) (by kernel_rfl) (by intro _ _ _ h; exact h) (Or.inr ⟨by kernel_rfl, rfl⟩) (by assumption) ?rest5
          change wpAnyH _ _ _ _ _ _ _ (Act.put _ (some 126) _) _
          try simp only [Act.put, List.setIfInBounds_toArray, List.set_cons_zero, List.set_cons_succ]
          refine wpAnyH_take (i := 5) (v := undef) (by rfl) (by kernel_rfl) (by kernel_rfl) (by kernel_rfl) (by intro _ _ _ h; exact h) (Or.inr ⟨by kernel_rfl, rfl⟩) (by assumption) ?rest6
          change wpAnyH _ _ _ _ _ _ _ (Act.put _ (some 127) _) _
          try simp only [Act.put, List.setIfInBounds_toArray, List.set_cons_zero, List.set_cons_succ]
          refine wpAnyH_take (i := 6) (v := undef) (by rfl) (by kernel_rfl) (by kernel_rfl) (by kernel_rfl) (by intro _ _ _ h; exact h) (Or.inr ⟨by kernel_rfl, rfl⟩) (by assumption) ?rest7
          change wpAnyH _ _ _ _ _ _ _ (Act.put _ (some 128) _) _
          try simp only [Act.put, List.setIfInBounds_toArray, List.set_cons_zero, List.set_cons_succ]
          refine wpAnyH_take (i := 7) (v := undef) (by rfl) (by kernel_rfl) (by kernel_rfl) (by kernel_rfl) (by intro _ _ _ h; exact h) (Or.inr ⟨by kernel_rfl, rfl⟩) (by assumption) ?rest8
          change wpAnyH _ _ _ _ _ _ _ (Act.put _ (some 129) _) _
          try simp only [Act.put, List.setIfInBounds_toArray, List.set_cons_zero, List.set_cons_succ]
          refine wpAnyH_take (i := 8) (v := undef) (by rfl) (by kernel_rfl) (by kernel_rfl) (by kernel_rfl) (by intro _ _ _ h; exact h) (Or.inr ⟨by kernel_rfl, rfl⟩) (by assumption) ?rest9
          change wpAnyH _ _ _ _ _ _ _ (Act.put _ (some 130) _) _
          try simp only [Act.put, List.setIfInBounds_toArray, List.set_cons_zero, List.set_cons_succ]
          refine wpAnyH_take (i := 9) (v := undef) (by rfl) (by kernel_rfl) (by kernel_rfl) (by kernel_rfl) (by intro _ _ _ h; exact h) (Or.inr ⟨by kernel_rfl, rfl⟩) (by assumption) ?rest10
          change wpAnyH _ _ _ _ _ _ _ (Act.put _ (some 131) _) _
          try simp only [Act.put, List.setIfInBounds_toArray, List.set_cons_zero, List.set_cons_succ]
          refine wpAnyH_take (i := 10) (v := undef) (by rfl) (by kernel_rfl) (by kernel_rfl) (by kernel_rfl) (by intro _ _ _ h; exact h) (Or.inr ⟨by kernel_rfl, rfl⟩) (by assumption) ?rest11
          change wpAnyH _ _ _ _ _ _ _ (Act.put _ (some 132) _) _
          try simp only [Act.put, List.setIfInBounds_toArray, List.set_cons_zero, List.set_cons_succ]
          refine tq 11 133 ?_
          refine tq 12 18 ?_
          refine wpAnyH_done (by kernel_rfl) ?_ _
          refine NoPanic.normal ?_
          have HKZ := Lib.hid (HQ.out.2.2.trans hHeld)
          clear hHeld
          go_wp2_with fail
          go_roundw
          case rel => exact ⟨true, k + 1, rfl, by simp, Lib.hid ⟨by rw [HTS.out, ← HQ.out.1]; rfl, by omega, HKZ.out⟩⟩
          case measure => simp only [intOf]; omega
         |false =>
          go_upto_region 33 with fail
          refine wp_region_noPanic ?_
          refine wp_region_held_drew (S := fun w' => Keeps (wq) w') (by kernel_rfl) ((Keeps.refl _).drew) (fun _ => ?_)
          have hHeld : Keeps (wq) (wq).drew := (Keeps.refl _).drew
          refine tq 0 122 ?_
          refine tq 1 123 ?_
          refine tq 2 124 ?_
          refine tq 3 125 ?_
          refine tq 4 126 ?_
          refine tq 5 127 ?_ (hy := fun w' hSw => by
           have hSw : Keeps _ w' := hSw
           have h0 := HSC.out _ (HQ.out.2.2.trans hSw)
           clear hSw
           go_simp
           try with_reducible rfl)
          refine tq 6 128 ?_
          refine tq 7 129 ?_
          refine tq 8 130 ?_
          refine tq 9 131 ?_ (hy := fun w' hSw => by
           have hSw : Keeps _ w' := hSw
           have h0 := HWC.out _ (HQ.out.2.2.trans hSw)
           clear hSw
           go_simp
           try with_reducible rfl)
          refine tq 10 132 ?_
          refine tq 11 133 ?_
          refine tq 12 18 ?_
          refine wpAnyH_done (by kernel_rfl) ?_ _
          refine NoPanic.normal ?_
          have HKZ := Lib.hid (HQ.out.2.2.trans hHeld)
          clear hHeld
          go_wp2_with fail
          go_roundw
          case rel => exact ⟨sk == xn, k + 1, rfl, by simp, Lib.hid ⟨by rw [HTS.out, ← HQ.out.1]; rfl, by omega, HKZ.out⟩⟩
          case measure => simp only [intOf]; omega
        ·have hd6 : decide ((k : Int) < (st.length : Int)) = false := decide_eq_false (by omega)
         have HBE := Lib.hid (show b = decide (xn ∈ st) from by
          have h1 := HQ.out.1
          rw [List.take_of_length_le (by omega)] at h1
          exact h1)
         have a0 := HWC.out wq HQ.out.2.2
         have CG := Lib.hid (get_any (HST.out.keeps HQ.out.2.2) (x := xn) (by have := HPO.out; simp [Lit.wf, IntKind.min, IntKind.max, IntKind.signed, IntKind.bits]; omega) (by
          by_cases hx : xn ∈ st
          ·rw [HSY.out hx]; have := HBL.out; simp only [Option.getD_some]; omega
          ·rw [HGN.out hx]; exact Nat.zero_le _))
         cases b with
         |true =>
          have hx : xn ∈ st := of_decide_eq_true HBE.out.symm
          have hky : decide (xn ∈ keysB s2) = true := decide_eq_true (List.mem_map.2 ⟨_, HAF.out.up.body.1 (HSY.out hx), rfl⟩)
          rw [HSY.out hx, hky] at CG
          simp only [Option.getD_some] at CG
          clear hx hky
          go_wp2_with fail
          refine CG.out.mono ?_
          rintro e wg ⟨gv, rfl, hog, hkg⟩
          have HKG := Lib.hid (HQ.out.2.2.trans hkg)
          obtain ⟨gp, gc, rfl, -, -⟩ := hog.row.form
          have HOG := Lib.hid (show Row wg (.slice gp xb.length gc) (xb.map u8v) from by have := hog.row; rwa [List.length_map] at this)
          rw [List.length_map]
          have heq : ((bstr xb).toList == (bstr xb).toList) = true := by simp
          clear hog hkg CG a0
          go_upto_region 35 with fail
          refine wp_region_noPanic ?_
          refine wp_region_held_drew (S := fun w' => Keeps (wg) w') (by kernel_rfl) ((Keeps.refl _).drew) (fun _ => ?_)
          have hHeld : Keeps (wg) (wg).drew := (Keeps.refl _).drew
          refine tq 0 143 ?_
          refine tq 1 144 ?_
          refine tq 2 145 ?_
          refine tq 3 146 ?_
          refine tq 4 147 ?_
          refine tq 5 148 ?_
          refine tq 6 149 ?_ (hy := fun w' hSw => by
           have hSw : Keeps _ w' := hSw
           have h0 := str_at' (HOG.out.keeps hSw)
           clear hSw
           go_simp
           try with_reducible rfl)
          refine tq 7 150 ?_
          refine tq 8 151 ?_
          refine tq 9 152 ?_
          refine tq 10 153 ?_ (hy := fun w' hSw => by
           have hSw : Keeps _ w' := hSw
           have h0 := HOC.out _ (HKG.out.trans hSw)
           clear hSw
           go_simp
           try with_reducible rfl)
          refine tq 11 154 ?_
          refine tq 12 155 ?_
          refine tq 13 156 ?_
          refine tq 14 157 ?_
          refine tq 15 158 ?_
          refine tq 16 159 ?_
          refine tq 17 160 ?_
          refine wpAnyH_take (i := 18) (v := undef) (by rfl) (by kernel_rfl) (by kernel_rfl) (by kernel_rfl) (by intro _ _ _ h; exact h) (Or.inr ⟨by kernel_rfl, rfl⟩) (by assumption) ?rest45
          change wpAnyH _ _ _ _ _ _ _ (Act.put _ (some 161) _) _
          try simp only [Act.put, List.setIfInBounds_toArray, List.set_cons_zero, List.set_cons_succ]
          refine tq 19 162 ?_
          refine tq 20 163 ?_
          refine wpAnyH_take (i := 21) (v := undef) (by rfl) (by kernel_rfl) (by kernel_rfl) (by kernel_rfl) (by intro _ _ _ h; exact h) (Or.inr ⟨by kernel_rfl, rfl⟩) (by assumption) ?rest48
          change wpAnyH _ _ _ _ _ _ _ (Act.put _ (some 164) _) _
          try simp only [Act.put, List.setIfInBounds_toArray, List.set_cons_zero, List.set_cons_succ]
          refine wpAnyH_take (i := 22) (v := undef) (by rfl) (by kernel_rfl) (by kernel_rfl) (by kernel_rfl) (by intro _ _ _ h; exact h) (Or.inr ⟨by kernel_rfl, rfl⟩) (by assumption) ?rest49
          change wpAnyH _ _ _ _ _ _ _ (Act.put _ (some 165) _) _
          try simp only [Act.put, List.setIfInBounds_toArray, List.set_cons_zero, List.set_cons_succ]
          refine wpAnyH_take (i := 23) (v := undef) (by rfl) (by kernel_rfl) (by kernel_rfl) (by kernel_rfl) (by intro _ _ _ h; exact h) (Or.inr ⟨by kernel_rfl, rfl⟩) (by assumption) ?rest50
          change wpAnyH _ _ _ _ _ _ _ (Act.put _ (some 166) _) _
          try simp only [Act.put, List.setIfInBounds_toArray, List.set_cons_zero, List.set_cons_succ]
          refine tq 24 167 ?_
          refine tq 25 168 ?_
          refine wpAnyH_done (by kernel_rfl) ?_ _
          refine NoPanic.normal ?_
          have HKZ := Lib.hid (HKG.out.trans hHeld)
          clear hHeld
          go_wp2_with fail
          go_roundw
          case rel => exact ⟨m + 1, by simp, Lib.hid ⟨by omega, HKZ.out⟩⟩
          case measure => simp only [intOf]; omega
         |false =>
          have hx : xn ∉ st := of_decide_eq_false HBE.out.symm
          rw [HGN.out hx] at CG
          clear hx
          cases hky : decide (xn ∈ keysB s2) with
          |true =>
           rw [hky] at CG
           go_wp2_with fail
           refine CG.out.mono ?_
           rintro e wg ⟨gv, rfl, hog, hkg⟩
           have HKG := Lib.hid (HQ.out.2.2.trans hkg)
           obtain ⟨gp, gc, rfl, -, -⟩ := hog.row.form
           rw [List.map_nil, List.length_nil]
           clear hog hkg CG a0
           go_upto_region 35 with fail
           refine wp_region_noPanic ?_
           refine wp_region_held_drew (S := fun w' => Keeps (wg) w') (by kernel_rfl) ((Keeps.refl _).drew) (fun _ => ?_)
           have hHeld : Keeps (wg) (wg).drew := (Keeps.refl _).drew
           refine tq 0 143 ?_
           refine tq 1 144 ?_
           refine wpAnyH_take (i := 2) (v := undef) (by rfl) (by kernel_rfl) (by kernel_rfl) (by kernel_rfl) (by intro _ _ _ h; exact h) (Or.inr ⟨by kernel_rfl, rfl⟩) (by assumption) ?rest55
           change wpAnyH _ _ _ _ _ _ _ (Act.put _ (some 145) _) _
           try simp only [Act.put, List.setIfInBounds_toArray, List.set_cons_zero, List.set_cons_succ]
           refine wpAnyH_take (i := 3) (v := undef) (by rfl) (by kernel_rfl) (by kernel_rfl) (by kernel_rfl) (by intro _ _ _ h; exact h) (Or.inr ⟨by kernel_rfl, rfl⟩) (by assumption) ?rest56
           change wpAnyH _ _ _ _ _ _ _ (Act.put _ (some 146) _) _
           try simp only [Act.put, List.setIfInBounds_toArray, List.set_cons_zero, List.set_cons_succ]
           refine wpAnyH_take (i := 4) (v := undef) (by rfl) (by kernel_rfl) (by kernel_rfl) (by kernel_rfl) (by intro _ _ _ h; exact h) (Or.inr ⟨by kernel_rfl, rfl⟩) (by assumption) ?rest57
           change wpAnyH _ _ _ _ _ _ _ (Act.put _ (some 147) _) _
           try simp only [Act.put, List.setIfInBounds_toArray, List.set_cons_zero, List.set_cons_succ]
           refine wpAnyH_take (i := 5) (v := undef) (by rfl) (by kernel_rfl) (by kernel_rfl) (by kernel_rfl) (by intro _ _ _ h; exact h) (Or.inr ⟨by kernel_rfl, rfl⟩) (by assumption) ?rest58
           change wpAnyH _ _ _ _ _ _ _ (Act.put _ (some 148) _) _
           try simp only [Act.put, List.setIfInBounds_toArray, List.set_cons_zero, List.set_cons_succ]
           refine wpAnyH_take (i := 6) (v := undef) (by rfl) (by kernel_rfl) (by kernel_rfl) (by kernel_rfl) (by intro _ _ _ h; exact h) (Or.inr ⟨by kernel_rfl, rfl⟩) (by assumption) ?rest59
           change wpAnyH _ _ _ _ _ _ _ (Act.put _ (some 149) _) _
           try simp only [Act.put, List.setIfInBounds_toArray, List.set_cons_zero, List.set_cons_succ]
           refine wpAnyH_take (i := 7) (v := undef) (by rfl) (by kernel_rfl) (by kernel_rfl) (by kernel_rfl) (by intro _ _ _ h; exact h) (Or.inr ⟨by kernel_rfl, rfl⟩) (by assumption) ?rest60
           change wpAnyH _ _ _ _ _ _ _ (Act.put _ (some 150) _) _
           try simp only [Act.put, List.setIfInBounds_toArray, List.set_cons_zero, List.set_cons_succ]
           refine wpAnyH_take (i := 8) (v := undef) (by rfl) (by kernel_rfl) (by kernel_rfl) (by kernel_rfl) (by intro _ _ _ h; exact h) (Or.inr ⟨by kernel_rfl, rfl⟩) (by assumption) ?rest61
           change wpAnyH _ _ _ _ _ _ _ (Act.put _ (some 151) _) _
           try simp only [Act.put, List.setIfInBounds_toArray, List.set_cons_zero, List.set_cons_succ]
           refine wpAnyH_take (i := 9) (v := undef) (by rfl) (by kernel_rfl) (by kernel_rfl) (by kernel_rfl) (by intro _ _ _ h; exact h) (Or.inr ⟨by kernel_rfl, rfl⟩) (by assumption) ?rest62
           change wpAnyH _ _ _ _ _ _ _ (Act.put _ (some 152) _) _
           try simp only [Act.put, List.setIfInBounds_toArray, List.set_cons_zero, List.set_cons_succ]
           refine wpAnyH_take (i := 10) (v := undef) (by rfl) (by kernel_rfl) (by kernel_rfl) (by kernel_rfl) (by intro _ _ _ h; exact h) (Or.inr ⟨by kernel_rfl, rfl⟩) (by assumption) ?rest63
           change wpAnyH _ _ _ _ _ _ _ (Act.put _ (some 153) _) _
           try simp only [Act.put, List.setIfInBounds_toArray, List.set_cons_zero, List.set_cons_succ]
           refine wpAnyH_take (i := 11) (v := undef) (by rfl) (by kernel_rfl) (by kernel_rfl) (by kernel_rfl) (by intro _ _ _ h; exact h) (Or.inr ⟨by kernel_rfl, rfl⟩) (by assumption) ?rest64
           change wpAnyH _ _ _ _ _ _ _ (Act.put _ (some 154) _) _
           try simp only [Act.put, List.setIfInBounds_toArray, List.set_cons_zero, List.set_cons_succ]
           refine wpAnyH_take (i := 12) (v := undef) (by rfl) (by kernel_rfl) (by kernel_rfl) (by kernel_rfl) (by intro _ _ _ h; exact h) (Or.inr ⟨by kernel_rfl, rfl⟩) (by assumption) ?rest65
           change wpAnyH _ _ _ _ _ _ _ (Act.put _ (some 155) _) _
           try simp only [Act.put, List.setIfInBounds_toArray, List.set_cons_zero, List.set_cons_succ]
           refine tq 13 156 ?_
           refine tq 14 157 ?_
           refine tq 15 158 ?_
           refine tq 16 159 ?_
           refine tq 17 160 ?_
           refine tq 18 161 ?_
           refine tq 19 162 ?_
           refine tq 20 163 ?_
           refine tq 21 164 ?_
           refine tq 22 165 ?_
           refine tq 23 166 ?_
           refine tq 24 167 ?_
           refine tq 25 168 ?_
           refine wpAnyH_done (by kernel_rfl) ?_ _
           refine NoPanic.normal ?_
           have HKZ := Lib.hid (HKG.out.trans hHeld)
           clear hHeld
           go_wp2_with fail
           go_roundw
           case rel => exact ⟨m + 1, by simp, Lib.hid ⟨by omega, HKZ.out⟩⟩
           case measure => simp only [intOf]; omega
          |false =>
           rw [hky] at CG
           go_wp2_with fail
           refine CG.out.mono ?_
           rintro e wg ⟨gv, rfl, hog, hkg⟩
           have HKG := Lib.hid (HQ.out.2.2.trans hkg)
           obtain ⟨gp, gc, rfl, -, -⟩ := hog.row.form
           rw [List.map_nil, List.length_nil]
           clear hog hkg CG a0
           go_upto_region 35 with fail
           refine wp_region_noPanic ?_
           refine wp_region_held_drew (S := fun w' => Keeps (wg) w') (by kernel_rfl) ((Keeps.refl _).drew) (fun _ => ?_)
           have hHeld : Keeps (wg) (wg).drew := (Keeps.refl _).drew
           refine tq 0 143 ?_
           refine tq 1 144 ?_
           refine wpAnyH_take (i := 2) (v := undef) (by rfl) (by kernel_rfl) (by kernel_rfl) (by kernel_rfl) (by intro _ _ _ h; exact h) (Or.inr ⟨by kernel_rfl, rfl⟩) (by assumption) ?rest81
           change wpAnyH _ _ _ _ _ _ _ (Act.put _ (some 145) _) _
           try simp only [Act.put, List.setIfInBounds_toArray, List.set_cons_zero, List.set_cons_succ]
           refine wpAnyH_take (i := 3) (v := undef) (by rfl) (by kernel_rfl) (by kernel_rfl) (by kernel_rfl) (by intro _ _ _ h; exact h) (Or.inr ⟨by kernel_rfl, rfl⟩) (by assumption) ?rest82
           change wpAnyH _ _ _ _ _ _ _ (Act.put _ (some 146) _) _
           try simp only [Act.put, List.setIfInBounds_toArray, List.set_cons_zero, List.set_cons_succ]
           refine wpAnyH_take (i := 4) (v := undef) (by rfl) (by kernel_rfl) (by kernel_rfl) (by kernel_rfl) (by intro _ _ _ h; exact h) (Or.inr ⟨by kernel_rfl, rfl⟩) (by assumption) ?rest83
           change wpAnyH _ _ _ _ _ _ _ (Act.put _ (some 147) _) _
           try simp only [Act.put, List.setIfInBounds_toArray, List.set_cons_zero, List.set_cons_succ]
           refine wpAnyH_take (i := 5) (v := undef) (by rfl) (by kernel_rfl) (by kernel_rfl) (by kernel_rfl) (by intro _ _ _ h; exact h) (Or.inr ⟨by kernel_rfl, rfl⟩) (by assumption) ?rest84
           change wpAnyH _ _ _ _ _ _ _ (Act.put _ (some 148) _) _
           try simp only [Act.put, List.setIfInBounds_toArray, List.set_cons_zero, List.set_cons_succ]
           refine wpAnyH_take (i := 6) (v := undef) (by rfl) (by kernel_rfl) (by kernel_rfl) (by kernel_rfl) (by intro _ _ _ h; exact h) (Or.inr ⟨by kernel_rfl, rfl⟩) (by assumption) ?rest85
           change wpAnyH _ _ _ _ _ _ _ (Act.put _ (some 149) _) _
           try simp only [Act.put, List.setIfInBounds_toArray, List.set_cons_zero, List.set_cons_succ]
           refine wpAnyH_take (i := 7) (v := undef) (by rfl) (by kernel_rfl) (by kernel_rfl) (by kernel_rfl) (by intro _ _ _ h; exact h) (Or.inr ⟨by kernel_rfl, rfl⟩) (by assumption) ?rest86
           change wpAnyH _ _ _ _ _ _ _ (Act.put _ (some 150) _) _
           try simp only [Act.put, List.setIfInBounds_toArray, List.set_cons_zero, List.set_cons_succ]
           refine wpAnyH_take (i := 8) (v := undef) (by rfl) (by kernel_rfl) (by kernel_rfl) (by kernel_rfl) (by intro _ _ _ h; exact h) (Or.inr ⟨by kernel_rfl, rfl⟩) (by assumption) ?rest87
           change wpAnyH _ _ _ _ _ _ _ (Act.put _ (some 151) _) _
           try simp only [Act.put, List.setIfInBounds_toArray, List.set_cons_zero, List.set_cons_succ]
           refine wpAnyH_take (i := 9) (v := undef) (by rfl) (by kernel_rfl) (by kernel_rfl) (by kernel_rfl) (by intro _ _ _ h; exact h) (Or.inr ⟨by kernel_rfl, rfl⟩) (by assumption) ?rest88
           change wpAnyH _ _ _ _ _ _ _ (Act.put _ (some 152) _) _
           try simp only [Act.put, List.setIfInBounds_toArray, List.set_cons_zero, List.set_cons_succ]
           refine wpAnyH_take (i := 10) (v := undef) (by rfl) (by kernel_rfl) (by kernel_rfl) (by kernel_rfl) (by intro _ _ _ h; exact h) (Or.inr ⟨by kernel_rfl, rfl⟩) (by assumption) ?rest89
           change wpAnyH _ _ _ _ _ _ _ (Act.put _ (some 153) _) _
           try simp only [Act.put, List.setIfInBounds_toArray, List.set_cons_zero, List.set_cons_succ]
           refine wpAnyH_take (i := 11) (v := undef) (by rfl) (by kernel_rfl) (by kernel_rfl) (by kernel_rfl) (by intro _ _ _ h; exact h) (Or.inr ⟨by kernel_rfl, rfl⟩) (by assumption) ?rest90
           change wpAnyH _ _ _ _ _ _ _ (Act.put _ (some 154) _) _
           try simp only [Act.put, List.setIfInBounds_toArray, List.set_cons_zero, List.set_cons_succ]
           refine wpAnyH_take (i := 12) (v := undef) (by rfl) (by kernel_rfl) (by kernel_rfl) (by kernel_rfl) (by intro _ _ _ h; exact h) (Or.inr ⟨by kernel_rfl, rfl⟩) (by assumption) ?rest91
           change wpAnyH _ _ _ _ _ _ _ (Act.put _ (some 155) _) _
           try simp only [Act.put, List.setIfInBounds_toArray, List.set_cons_zero, List.set_cons_succ]
           refine tq 13 156 ?_
           refine tq 14 157 ?_
           refine tq 15 158 ?_
           refine tq 16 159 ?_
           refine tq 17 160 ?_
           refine tq 18 161 ?_
           refine tq 19 162 ?_
           refine tq 20 163 ?_
           refine wpAnyH_take (i := 21) (v := undef) (by rfl) (by kernel_rfl) (by kernel_rfl) (by kernel_rfl) (by intro _ _ _ h; exact h) (Or.inr ⟨by kernel_rfl, rfl⟩) (by assumption) ?rest100
           change wpAnyH _ _ _ _ _ _ _ (Act.put _ (some 164) _) _
           try simp only [Act.put, List.setIfInBounds_toArray, List.set_cons_zero, List.set_cons_succ]
           refine wpAnyH_take (i := 22) (v := undef) (by rfl) (by kernel_rfl) (by kernel_rfl) (by kernel_rfl) (by intro _ _ _ h; exact h) (Or.inr ⟨by kernel_rfl, rfl⟩) (by assumption) ?rest101
           change wpAnyH _ _ _ _ _ _ _ (Act.put _ (some 165) _) _
           try simp only [Act.put, List.setIfInBounds_toArray, List.set_cons_zero, List.set_cons_succ]
           refine wpAnyH_take (i := 23) (v := undef) (by rfl) (by kernel_rfl) (by kernel_rfl) (by kernel_rfl) (by intro _ _ _ h; exact h) (Or.inr ⟨by kernel_rfl, rfl⟩) (by assumption) ?rest102
           change wpAnyH _ _ _ _ _ _ _ (Act.put _ (some 166) _) _
           try simp only [Act.put, List.setIfInBounds_toArray, List.set_cons_zero, List.set_cons_succ]
           refine tq 24 167 ?_
           refine tq 25 168 ?_
           refine wpAnyH_done (by kernel_rfl) ?_ _
           refine NoPanic.normal ?_
           have HKZ := Lib.hid (HKG.out.trans hHeld)
           clear hHeld
           go_wp2_with fail
           go_roundw
           case rel => exact ⟨m + 1, by simp, Lib.hid ⟨by omega, HKZ.out⟩⟩
           case measure => simp only [intOf]; omega
      ·have hd5 : decide ((m : Int) < (s.L.length : Int)) = false := decide_eq_false (by omega)
       have HB8 := Lib.hid (HB7.out.keeps HM.out.2)
       have h2l := HAF.out.len
       have CK2 := Lib.hid (keep_any HB8.out (by have := HNK.out; omega) HNK.out.1 HAF.out.up (by omega) (fun x hx => by have := HAF.out.big x hx; omega) (by
        have h1 := framesB_len s2.L HAF.out.big
        have h4 : 7000 * s2.L.length ≤ 7000 * 30 := Nat.mul_le_mul_left _ (by omega)
        omega) HAF.out.broken (v := .slice p1 st.length cap1) (l := st) (HS1.out.keeps HB8.out.kp) (by omega) (fun ho => absurd HAF.out.out ho))
       have hll : decide ((s2.L.length : Int) ≤ (s.L.length : Int)) = true := decide_eq_true (by omega)
       go_wp2_with fail
       refine CK2.out.mono ?_
       rintro e wf (⟨-, rfl, hkf⟩ | ⟨h, -⟩)
       ·have HB9 := Lib.hid (HB8.out.keeps hkf)
        obtain ⟨O9, hst9⟩ := HB9.out.st
        have CN2 := Lib.hid (numbers_any hst9 HNK.out.1)
        clear hst9 hkf CK2
        go_wp2_with fail
        refine CN2.out.mono ?_
        rintro e wl ⟨nv2, rfl, ho2, hk2⟩
        rw [numsUp_of HAF.out.up.asc] at ho2
        obtain ⟨np2, nc2, rfl, -, -⟩ := ho2.row.form
        rw [List.length_map, show (keysB s2).length = s2.L.length from List.length_map _]
        have HKL := Lib.hid hk2
        clear ho2 hk2 CN2
        go_wp2_with fail
        go_ret
        exact ⟨rfl, HB9.out.kp.trans HKL.out⟩
       ·exact absurd HAF.out.out h
end Bds
end Go.Proofs.YtklbemkafdccgaaGreat
