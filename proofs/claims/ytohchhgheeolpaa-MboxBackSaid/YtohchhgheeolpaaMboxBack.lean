/- The law MboxBack, walked. -/
import Derived.Test.YtohchhgheeolpaaK32
import Derived.Test.YtohchhgheeolpaaK30
import Derived.Test.YtohchhgheeolpaaMboxTakes
import Derived.Test.YtohchhgheeolpaaK26
namespace Go.Proofs.Ytohchhgheeolpaa
open Go.RowKit
namespace Mbx
open Rcd Go.Maps

theorem BoxAt.apart {w w' : World} {g b1 b2 n : Nat} {m : Box} {S : Nat → Prop} (h : BoxAt w g b1 b2 n m) (k : Mods S w w') (hd : ∀ x, BFr g b1 b2 x → ¬ S x) : BoxAt w' g b1 b2 n m := by
  obtain ⟨D1, h1, r1⟩ := h.ent
  obtain ⟨D2, h2, r2⟩ := h.org
  exact ⟨h.blk.mods k (hd _ (.inl rfl)), ⟨D1, map_mods h1 k (hd _ (.inr (.inl rfl))), r1⟩, ⟨D2, map_mods h2 k (hd _ (.inr (.inr rfl))), r2⟩, h.d1, h.d2, h.d12⟩
/-- a mailbox that was made behind a world -/
structure Late (w w' : World) (g b1 b2 n : Nat) (m : Box) : Prop where
  box : BoxAt w' g b1 b2 n m
  ge : ∀ x, BFr g b1 b2 x → w.heap.size ≤ x
theorem RecsAt.box' {w w' : World} {base g b1 b2 n : Nat} {v : Value} {l : List Rec} {m : Box} (h : RecsAt w base v l) (hb : BoxAt w g b1 b2 n m) (k : Mods (BFr g b1 b2) w w') : RecsAt w' base v l := by
  refine Frm.ownsRow_mods h k (fun x hx hs => ?_)
  rcases h.2 with ⟨rfl, _⟩ | ⟨q, cap, cur, rfl, _, hgg, _⟩
  · simp [Value.ownBlock] at hx
  · simp [Value.ownBlock] at hx
    subst hx
    rcases hs with rfl | rfl | rfl
    · have := hb.blk
      unfold Blk at this
      rw [hgg] at this
      simp at this
    · obtain ⟨D, ⟨es, cl, h1, _⟩, _⟩ := hb.ent
      rw [hgg] at h1
      simp at h1
    · obtain ⟨D, ⟨es, cl, h1, _⟩, _⟩ := hb.org
      rw [hgg] at h1
      simp at h1
theorem recs_all (m0 : Box) (l : List RecX) {j : Nat} (h : j < l.length) : all m0 (recs (l.take (j + 1))) = (take (all m0 (recs (l.take j))) l[j].1).1 := by
  rw [List.take_succ_eq_append_getElem h]
  unfold recs
  rw [List.map_append]
  exact all_snoc _ _ _
theorem all_next (m0 : Box) (l : List Rec) {j : Nat} (h : j < l.length) : all m0 (l.take (j + 1)) = (take (all m0 (l.take j)) l[j]).1 := by
  rw [List.take_succ_eq_append_getElem h]
  exact all_snoc _ _ _

set_option maxRecDepth 100000 in
set_option maxHeartbeats 8000000 in
theorem mboxBack_walk (W : World) (v0 : Value) (l : List RecX) (v1 : Value) (l2 : List RecX) (r0 : RowS W 12 v0 l.length (l.flatMap recC)) (w0 : ∀ y ∈ l, RecOk W y) (r1 : RowS W 12 v1 l2.length (l2.flatMap recC)) (w1 : ∀ y ∈ l2, RecOk W y) :
    Calls Try.prog 13 #[v0, v1] W fun e w' => e = .returned (.bool true) ∧ Keeps W w' := by
  obtain ⟨p0, c0, rfl, hc0, hc1⟩ := r0.form
  obtain ⟨p1, c1, rfl, hc2, hc3⟩ := r1.form
  have HR0 := Lib.hid r0
  have HW0 := Lib.hid (fun y hy => (w0 y hy).row)
  have HR1 := Lib.hid r1
  have HW1 := Lib.hid (fun y hy => (w1 y hy).row)
  clear r0 w0 r1 w1
  go_enter Try.func13, Try.ntmps13
  go_wp2_with fail
  refine (awake20_any W).mono ?_
  rintro e w1 ⟨rfl, hk1⟩
  have HK := Lib.hid hk1
  have HFW := Lib.hid (few_any w1 (.slice p0 l.length c0) l 40 (by decide) (RowS.keeps HR0.out hk1) (fun y hy => (HW0.out y hy).keeps hk1))
  clear hk1
  go_wp2_with fail
  refine HFW.out.mono ?_
  rintro e w2 ⟨bb, rfl, hl40, hk2⟩
  have HK := Lib.hid (HK.out.trans hk2)
  clear hk2 HFW
  cases bb with
  | false =>
    go_wp2_with fail
    go_ret
    exact ⟨rfl, HK.out⟩
  | true =>
  have hle := hl40 rfl
  clear hl40
  have HFW := Lib.hid (few_any w2 (.slice p1 l2.length c1) l2 40 (by decide) (RowS.keeps HR1.out HK.out) (fun y hy => (HW1.out y hy).keeps HK.out))
  go_wp2_with fail
  refine HFW.out.mono ?_
  rintro e w3 ⟨bb, rfl, hl40, hk3⟩
  have HK := Lib.hid (HK.out.trans hk3)
  clear hk3 HFW
  cases bb with
  | false =>
    go_wp2_with fail
    go_ret
    exact ⟨rfl, HK.out⟩
  | true =>
  have hle2 := hl40 rfl
  clear hl40
  go_wp2_with fail
  refine (new_any w3).mono ?_
  rintro e w4 ⟨g, b1, b2, rfl, hg, h1, h2, hb, hk⟩
  have HGE := Lib.hid (bfr_ge (Nat.le_trans HK.out.size hg) (Nat.le_trans HK.out.size h1) (Nat.le_trans HK.out.size h2))
  have HB := Lib.hid hb
  have HK := Lib.hid (HK.out.trans hk)
  clear hb hk hg h1 h2
  go_wp2_with fail
  go_loopw [6] (fun i wr => ∃ j : Nat, i = .int .i64 (j : Int) ∧ j ≤ l.length ∧ Hid (BoxAt wr g b1 b2 (2 * j) (all new (recs (l.take j))) ∧ Keeps W wr)) (fun i _ => l.length - (RowKit.intOf i).toNat)
  case atStart => exact ⟨0, rfl, Nat.zero_le _, Lib.hid ⟨HB.out, HK.out⟩⟩
  case round =>
    obtain ⟨j, rfl, hj, HH⟩ := hrel
    clear HB HK
    by_cases hlt : j < l.length
    · obtain ⟨bb, off, cap, hv, hrg⟩ := rowS_rec' (RowS.keeps HR0.out HH.out.2) hlt
      simp only [Value.slice.injEq] at hv
      obtain ⟨rfl, -, rfl⟩ := hv
      have HG := Lib.hid hrg
      have HT := Lib.hid (take_any wr HH.out.1 (by omega) l[j].1 l[j].2 ((HW0.out l[j] (List.getElem_mem hlt)).keeps HH.out.2))
      have HN := Lib.hid (recs_all new l hlt)
      clear hrg
      generalize take (all new (recs (l.take j))) l[j].1 = tk at *
      go_wp2_with (refine wpList_ldR rfl recM HG.out _ rfl rfl ?_)
      refine HT.out.mono ?_
      rintro e y1 ⟨rfl, hb, hm⟩
      have HB := Lib.hid hb
      have HK := Lib.hid (hm.keeps HH.out.2 HGE.out)
      clear hb hm
      go_wp2_with fail
      go_roundw
      case rel => exact ⟨j + 1, by simp, by omega, Lib.hid ⟨by rw [HN.out]; exact HB.out, HK.out⟩⟩
      case measure =>
        simp only [RowKit.intOf]
        omega
    · obtain rfl : j = l.length := by omega
      rw [List.take_length] at HH
      have hrl : (recs l).length = l.length := by simp [recs]
      have hst := st_all (recs l) new [] 0 st_new (by omega)
      have hgd := good_all (recs l) [] (by simp)
      have hnx := nx_all (recs l) new [] 0 st_new (by omega) rfl
      rw [hrl, Nat.zero_add] at hst
      generalize all new (recs l) = m at *
      generalize allL [] (recs l) = L at *
      have HST := Lib.hid hst
      have HGD := Lib.hid hgd
      have HNX := Lib.hid hnx
      have HB := Lib.hid HH.out.1
      have HK := Lib.hid HH.out.2
      clear hst hgd hnx HH hlt hrl
      have hLl : L.length ≤ 80 := Nat.le_trans (Rel.len_le HB.out HST.out.rel) (by omega)
      obtain ⟨y0, rfl⟩ : ∃ z : World, z = wr := ⟨_, rfl⟩
      go_wp2_with fail
      refine (new_any y0).mono ?_
      rintro e y1 ⟨ga, a1, a2, rfl, hg, h1, h2, hb, hk⟩
      have HAG := Lib.hid (bfr_ge hg h1 h2)
      have HA := Lib.hid hb
      have HBL := Lib.hid (fun x (hx : BFr g b1 b2 x) => HB.out.lt x hx)
      have HB := Lib.hid (HB.out.keeps hk)
      have HK1 := Lib.hid hk
      have hy01 := hk.size
      clear hb hk hg h1 h2
      go_wp2_with fail
      refine (new_any y1).mono ?_
      rintro e y2 ⟨gl, l1, l2', rfl, hg, h1, h2, hb, hk⟩
      have HLG := Lib.hid (bfr_ge hg h1 h2)
      have HL := Lib.hid hb
      have HAL := Lib.hid (fun x (hx : BFr ga a1 a2 x) => HA.out.lt x hx)
      have HA := Lib.hid (HA.out.keeps hk)
      have HB := Lib.hid (HB.out.keeps hk)
      have hys := hk.size
      have HK2 := Lib.hid (HK.out.trans (HK1.out.trans hk))
      clear hb hk hg h1 h2
      have HRC := Lib.hid (records_any y2 HB.out (by omega) HST.out.rel (fun e he => i64wf (by have := HST.out.uid e he; omega)) true)
      rw [filt_true] at HRC
      obtain ⟨R, hR⟩ : ∃ R, R = recsOf L := ⟨_, rfl⟩
      rw [← hR] at HRC
      have hRl : R.length ≤ 160 := by have := recsOf_le L; rw [← hR] at this; omega
      have HRD := Lib.hid (show ∀ r ∈ R, r.data = [] from by rw [hR]; exact recsOf_data L)
      obtain ⟨ag1, ag2⟩ := again L [] (by simpa using HST.out.rel.asc) (by simpa using HGD.out) (by simp; omega)
      rw [← hR] at ag1 ag2
      have HTR : Hid (∀ j (hj : j < R.length), (take (all new (R.take j)) R[j]).2 = true) := Lib.hid (fun j hj => by
        have hs := st_all (R.take j) new [] 0 st_new (by simp; omega)
        rw [(st_take hs (by simp; omega) R[j]).2.1]
        exact taken_get ag2 hj)
      have hsa := st_all R new [] 0 st_new (by omega)
      have hna := nx_all R new [] 0 st_new (by omega) rfl
      rw [ag1, List.nil_append] at hsa hna
      have HSA := Lib.hid hsa
      have HNA := Lib.hid hna
      have HRR := Lib.hid hR
      clear ag1 ag2 hsa hna hR
      go_wp2_with fail
      refine (HRC.out).mono ?_
      rintro e y3 ⟨v9, rfl, hen, hk⟩
      obtain ⟨p9, c9, rfl, -, -⟩ := Frm.ownsRow_form hen
      have HV := Lib.hid hen
      have HB := Lib.hid (HB.out.keeps hk)
      have HA := Lib.hid (HA.out.keeps hk)
      have HL := Lib.hid (HL.out.keeps hk)
      have HK3 := Lib.hid (HK2.out.trans hk)
      clear hen hk HRC
      go_wp2_with fail
      go_loopw [10] (fun i wr => ∃ j : Nat, i = .int .i64 (j : Int) ∧ j ≤ R.length ∧ Hid (BoxAt wr ga a1 a2 (2 * j) (all new (R.take j)) ∧ Mods (BFr ga a1 a2) y3 wr ∧ RecsAt wr y2.heap.size (.slice p9 R.length c9) R)) (fun i _ => R.length - (RowKit.intOf i).toNat)
      case atStart => exact ⟨0, rfl, Nat.zero_le _, Lib.hid ⟨HA.out, Mods.refl _ _, HV.out⟩⟩
      case round =>
      obtain ⟨j, rfl, hj, HH⟩ := hrel
      by_cases hlt : j < R.length
      · obtain ⟨qr, cap, hv, hrg⟩ := rec_oneR HH.out.2.2 hlt
        simp only [Value.slice.injEq] at hv
        obtain ⟨rfl, -, rfl⟩ := hv
        have HG := Lib.hid hrg
        have HTA := Lib.hid (take_any wr HH.out.1 (by omega) R[j] (.slice none 0 0) (by rw [HRD.out _ (List.getElem_mem hlt)]; exact row_nil wr))
        have HN := Lib.hid (all_next new R hlt)
        have HTT := Lib.hid (HTR.out j hlt)
        clear hrg
        generalize take (all new (R.take j)) R[j] = tk at *
        obtain ⟨tb, tok⟩ := tk
        obtain rfl : tok = true := HTT.out
        have HN := Lib.hid (show all new (R.take (j + 1)) = tb from HN.out)
        go_wp2_with (refine wpList_ldR rfl recM HG.out _ rfl rfl ?_)
        refine HTA.out.mono ?_
        rintro e z1 ⟨rfl, hb, hm⟩
        have HBz := Lib.hid (show BoxAt z1 ga a1 a2 (2 * j + 2) tb from hb)
        have HMz := Lib.hid (HH.out.2.1.trans hm (fun x hx _ => hx))
        have HVz := Lib.hid (HH.out.2.2.box' HH.out.1 hm)
        clear hb hm
        go_wp2_with fail
        go_roundw
        case rel => exact ⟨j + 1, by simp, by omega, Lib.hid ⟨by rw [HN.out]; exact HBz.out, HMz.out, HVz.out⟩⟩
        case measure =>
          simp only [RowKit.intOf]
          omega
      obtain rfl : j = R.length := by omega
      rw [List.take_length] at HH
      obtain ⟨y4, rfl⟩ : ∃ z : World, z = wr := ⟨_, rfl⟩
      clear hlt hj
      have hdAB : ∀ x, BFr g b1 b2 x → ¬ BFr ga a1 a2 x := fun x hx hy => by have := HBL.out x hx; have := HAG.out x hy; omega
      have hdAL : ∀ x, BFr gl l1 l2' x → ¬ BFr ga a1 a2 x := fun x hx hy => by have := HAL.out x hy; have := HLG.out x hx; omega
      have HDS := Lib.hid (And.intro hdAB hdAL)
      have HB := Lib.hid (HB.out.apart HH.out.2.1 hdAB)
      have HL := Lib.hid (HL.out.apart HH.out.2.1 hdAL)
      have HA := Lib.hid HH.out.1
      have HK4 := Lib.hid (HH.out.2.1.keeps HK3.out (fun x hx => by have := HAG.out x hx; have := HK.out.size; omega))
      clear hdAB hdAL HH HTR HV
      generalize all new R = ma at *
      have HRC := Lib.hid (records_any y4 HB.out (by omega) HST.out.rel (fun e he => i64wf (by have := HST.out.uid e he; omega)) false)
      obtain ⟨F, hF⟩ : ∃ F, F = filt false L := ⟨_, rfl⟩
      rw [← hF] at HRC
      have hFl : F.length ≤ 80 := by rw [hF]; exact Nat.le_trans (filt_le _ _) hLl
      have hFa : Asc F := by rw [hF]; exact List.Pairwise.filter _ HST.out.rel.asc
      have hFg : ∀ e ∈ F, Good e := fun e he => by rw [hF] at he; exact HGD.out e (List.mem_filter.1 he).1
      have HSF := Lib.hid (sumS_filt L)
      rw [← hF] at HSF
      obtain ⟨R2, hR⟩ : ∃ R2, R2 = recsOf F := ⟨_, rfl⟩
      rw [← hR] at HRC
      have hRl2 : R2.length ≤ 160 := by have := recsOf_le F; rw [← hR] at this; omega
      have HRD2 := Lib.hid (show ∀ r ∈ R2, r.data = [] from by rw [hR]; exact recsOf_data F)
      obtain ⟨ag1, ag2⟩ := again F [] (by simpa using hFa) (by simpa using hFg) (by simp; omega)
      rw [← hR] at ag1 ag2
      have HTR : Hid (∀ j (hj : j < R2.length), (take (all new (R2.take j)) R2[j]).2 = true) := Lib.hid (fun j hj => by
        have hs := st_all (R2.take j) new [] 0 st_new (by simp; omega)
        rw [(st_take hs (by simp; omega) R2[j]).2.1]
        exact taken_get ag2 hj)
      have hsl := st_all R2 new [] 0 st_new (by omega)
      rw [ag1, List.nil_append] at hsl
      have HSL := Lib.hid hsl
      have HFF := Lib.hid hF
      clear ag1 ag2 hsl hR hF hFa hFg
      go_wp2_with fail
      refine (HRC.out).mono ?_
      rintro e y5 ⟨v11, rfl, hen, hk⟩
      obtain ⟨p11, c11, rfl, -, -⟩ := Frm.ownsRow_form hen
      have HV := Lib.hid hen
      have HB := Lib.hid (HB.out.keeps hk)
      have HA := Lib.hid (HA.out.keeps hk)
      have HL := Lib.hid (HL.out.keeps hk)
      have HK5 := Lib.hid (HK4.out.trans hk)
      clear hen hk HRC
      go_wp2_with fail
      go_loopw [12] (fun i wr => ∃ j : Nat, i = .int .i64 (j : Int) ∧ j ≤ R2.length ∧ Hid (BoxAt wr gl l1 l2' (2 * j) (all new (R2.take j)) ∧ Mods (BFr gl l1 l2') y5 wr ∧ RecsAt wr y4.heap.size (.slice p11 R2.length c11) R2)) (fun i _ => R2.length - (RowKit.intOf i).toNat)
      case atStart => exact ⟨0, rfl, Nat.zero_le _, Lib.hid ⟨HL.out, Mods.refl _ _, HV.out⟩⟩
      case round =>
      obtain ⟨j, rfl, hj, HH⟩ := hrel
      by_cases hlt : j < R2.length
      · obtain ⟨qr, cap, hv, hrg⟩ := rec_oneR HH.out.2.2 hlt
        simp only [Value.slice.injEq] at hv
        obtain ⟨rfl, -, rfl⟩ := hv
        have HG := Lib.hid hrg
        have HTA := Lib.hid (take_any wr HH.out.1 (by omega) R2[j] (.slice none 0 0) (by rw [HRD2.out _ (List.getElem_mem hlt)]; exact row_nil wr))
        have HN := Lib.hid (all_next new R2 hlt)
        have HTT := Lib.hid (HTR.out j hlt)
        clear hrg
        generalize take (all new (R2.take j)) R2[j] = tk at *
        obtain ⟨tb, tok⟩ := tk
        obtain rfl : tok = true := HTT.out
        have HN := Lib.hid (show all new (R2.take (j + 1)) = tb from HN.out)
        go_wp2_with (refine wpList_ldR rfl recM HG.out _ rfl rfl ?_)
        refine HTA.out.mono ?_
        rintro e z1 ⟨rfl, hb, hm⟩
        have HBz := Lib.hid (show BoxAt z1 gl l1 l2' (2 * j + 2) tb from hb)
        have HMz := Lib.hid (HH.out.2.1.trans hm (fun x hx _ => hx))
        have HVz := Lib.hid (HH.out.2.2.box' HH.out.1 hm)
        clear hb hm
        go_wp2_with fail
        go_roundw
        case rel => exact ⟨j + 1, by simp, by omega, Lib.hid ⟨by rw [HN.out]; exact HBz.out, HMz.out, HVz.out⟩⟩
        case measure =>
          simp only [RowKit.intOf]
          omega
      obtain rfl : j = R2.length := by omega
      rw [List.take_length] at HH
      obtain ⟨y6, rfl⟩ : ∃ z : World, z = wr := ⟨_, rfl⟩
      clear hlt hj
      have hdLB : ∀ x, BFr g b1 b2 x → ¬ BFr gl l1 l2' x := fun x hx hy => by have := HBL.out x hx; have := HLG.out x hy; omega
      have hdLA : ∀ x, BFr ga a1 a2 x → ¬ BFr gl l1 l2' x := fun x hx hy => HDS.out.2 x hy hx
      have HB := Lib.hid (HB.out.apart HH.out.2.1 hdLB)
      have HA := Lib.hid (HA.out.apart HH.out.2.1 hdLA)
      have HL := Lib.hid HH.out.1
      have HK6 := Lib.hid (HH.out.2.1.keeps HK5.out (fun x hx => by have := HLG.out x hx; have := HK.out.size; omega))
      clear hdLB hdLA HH HTR HV
      generalize all new R2 = ml at *
      have ea1 : ma.ub = m.ub := by rw [HSA.out.rel.ub, HST.out.rel.ub]
      have ea2 : ma.uc = m.uc := by rw [HSA.out.rel.uc, HST.out.rel.uc]
      have ea3 : ma.next = m.next := by rw [HNA.out, HNX.out]
      have el1 : ml.ub = m.ub := by rw [HSL.out.rel.ub, HSF.out.1, HST.out.rel.ub]
      have el2 : ml.uc = m.uc := by rw [HSL.out.rel.uc, HSF.out.2, HST.out.rel.uc]
      have HEQ := Lib.hid (And.intro ea1 (And.intro ea2 (And.intro ea3 (And.intro el1 el2))))
      clear ea1 ea2 ea3 el1 el2
      have HWF := Lib.hid (show ∀ e ∈ L, (Lit.int .i64 e.uid).wf = true from fun e he => i64wf (by have := HST.out.uid e he; omega))
      have HWFF := Lib.hid (show ∀ e ∈ F, (Lit.int .i64 e.uid).wf = true from fun e he => by rw [HFF.out] at he; exact HWF.out e (List.mem_filter.1 he).1)
      have HKz := HK6
      go_wp2_with fail
      refine (list_any y6 HA.out (by omega) HSA.out.rel HWF.out true).mono ?_
      rintro e x1 ⟨v, rfl, hen, hk⟩
      rw [filt_true] at hen
      obtain ⟨p20, c20, rfl, -, -⟩ := Frm.ownsRow_form hen
      have HE20 := Lib.hid hen.r
      clear hen
      have HB := Lib.hid (HB.out.keeps hk)
      have HA := Lib.hid (HA.out.keeps hk)
      have HL := Lib.hid (HL.out.keeps hk)
      have HKz := Lib.hid (HKz.out.trans hk)
      clear hk
      go_wp2_with fail
      refine (list_any x1 HB.out (by omega) HST.out.rel HWF.out true).mono ?_
      rintro e x2 ⟨v, rfl, hen, hk⟩
      rw [filt_true] at hen
      obtain ⟨p21, c21, rfl, -, -⟩ := Frm.ownsRow_form hen
      have HE21 := Lib.hid hen.r
      clear hen
      have HE20 := Lib.hid (HE20.out.keeps hk)
      have HB := Lib.hid (HB.out.keeps hk)
      have HA := Lib.hid (HA.out.keeps hk)
      have HL := Lib.hid (HL.out.keeps hk)
      have HKz := Lib.hid (HKz.out.trans hk)
      clear hk
      go_wp2_with fail
      refine (sameEnts_any x2 HE20.out HE21.out).mono ?_
      rintro e x3 ⟨rfl, hk⟩
      have HB := Lib.hid (HB.out.keeps hk)
      have HA := Lib.hid (HA.out.keeps hk)
      have HL := Lib.hid (HL.out.keeps hk)
      have HKz := Lib.hid (HKz.out.trans hk)
      clear hk
      go_wp2_with fail
      refine (use_any x3 HA.out).mono ?_
      rintro e x4 ⟨rfl, hk⟩
      rw [HEQ.out.1, HEQ.out.2.1]
      have HB := Lib.hid (HB.out.keeps hk)
      have HA := Lib.hid (HA.out.keeps hk)
      have HL := Lib.hid (HL.out.keeps hk)
      have HKz := Lib.hid (HKz.out.trans hk)
      clear hk
      go_wp2_with fail
      refine (use_any x4 HB.out).mono ?_
      rintro e x5 ⟨rfl, hk⟩
      have HB := Lib.hid (HB.out.keeps hk)
      have HA := Lib.hid (HA.out.keeps hk)
      have HL := Lib.hid (HL.out.keeps hk)
      have HKz := Lib.hid (HKz.out.trans hk)
      clear hk
      go_wp2_with fail
      refine (next_kk x5 HA.out).mono ?_
      rintro e x6 ⟨rfl, hk⟩
      rw [HEQ.out.2.2.1]
      have HB := Lib.hid (HB.out.keeps hk)
      have HA := Lib.hid (HA.out.keeps hk)
      have HL := Lib.hid (HL.out.keeps hk)
      have HKz := Lib.hid (HKz.out.trans hk)
      clear hk
      go_wp2_with fail
      refine (next_kk x6 HB.out).mono ?_
      rintro e x7 ⟨rfl, hk⟩
      have HB := Lib.hid (HB.out.keeps hk)
      have HA := Lib.hid (HA.out.keeps hk)
      have HL := Lib.hid (HL.out.keeps hk)
      have HKz := Lib.hid (HKz.out.trans hk)
      clear hk
      go_wp2_with fail
      refine (list_any x7 HL.out (by omega) HSL.out.rel HWFF.out true).mono ?_
      rintro e x8 ⟨v, rfl, hen, hk⟩
      rw [filt_true] at hen
      obtain ⟨p22, c22, rfl, -, -⟩ := Frm.ownsRow_form hen
      have HE22 := Lib.hid hen.r
      clear hen
      have HB := Lib.hid (HB.out.keeps hk)
      have HA := Lib.hid (HA.out.keeps hk)
      have HL := Lib.hid (HL.out.keeps hk)
      have HKz := Lib.hid (HKz.out.trans hk)
      clear hk
      go_wp2_with fail
      refine (list_any x8 HB.out (by omega) HST.out.rel HWF.out false).mono ?_
      rintro e x9 ⟨v, rfl, hen, hk⟩
      rw [← HFF.out] at hen
      obtain ⟨p23, c23, rfl, -, -⟩ := Frm.ownsRow_form hen
      have HE23 := Lib.hid hen.r
      clear hen
      have HE22 := Lib.hid (HE22.out.keeps hk)
      have HB := Lib.hid (HB.out.keeps hk)
      have HA := Lib.hid (HA.out.keeps hk)
      have HL := Lib.hid (HL.out.keeps hk)
      have HKz := Lib.hid (HKz.out.trans hk)
      clear hk
      go_wp2_with fail
      refine (sameEnts_any x9 HE22.out HE23.out).mono ?_
      rintro e x10 ⟨rfl, hk⟩
      have HB := Lib.hid (HB.out.keeps hk)
      have HA := Lib.hid (HA.out.keeps hk)
      have HL := Lib.hid (HL.out.keeps hk)
      have HKz := Lib.hid (HKz.out.trans hk)
      clear hk
      go_wp2_with fail
      refine (use_any x10 HL.out).mono ?_
      rintro e x11 ⟨rfl, hk⟩
      rw [HEQ.out.2.2.2.1, HEQ.out.2.2.2.2]
      have HB := Lib.hid (HB.out.keeps hk)
      have HA := Lib.hid (HA.out.keeps hk)
      have HL := Lib.hid (HL.out.keeps hk)
      have HKz := Lib.hid (HKz.out.trans hk)
      clear hk
      go_wp2_with fail
      refine (use_any x11 HB.out).mono ?_
      rintro e x12 ⟨rfl, hk⟩
      have HB := Lib.hid (HB.out.keeps hk)
      have HA := Lib.hid (HA.out.keeps hk)
      have HL := Lib.hid (HL.out.keeps hk)
      have HKz := Lib.hid (HKz.out.trans hk)
      clear hk
      go_wp2_with fail
      refine (clone_any x12 HB.out).mono ?_
      rintro e x13 ⟨gc, cc1, cc2, rfl, hg, h1, h2, hcb, hk⟩
      have HCG := Lib.hid (bfr_ge hg h1 h2)
      have HC := Lib.hid hcb
      have HBC := Lib.hid (fun x (hx : BFr g b1 b2 x) => HB.out.lt x hx)
      have HAC := Lib.hid (fun x (hx : BFr ga a1 a2 x) => HA.out.lt x hx)
      have HKC := HKz
      clear hcb hg h1 h2
      have HB := Lib.hid (HB.out.keeps hk)
      have HA := Lib.hid (HA.out.keeps hk)
      have HL := Lib.hid (HL.out.keeps hk)
      have HKz := Lib.hid (HKz.out.trans hk)
      clear hk
      go_wp2_with fail
      refine (list_any x13 HB.out (by omega) HST.out.rel HWF.out true).mono ?_
      rintro e x14 ⟨v, rfl, hen, hk⟩
      rw [filt_true] at hen
      obtain ⟨p24, c24, rfl, -, -⟩ := Frm.ownsRow_form hen
      have HE24 := Lib.hid hen
      clear hen
      have HB := Lib.hid (HB.out.keeps hk)
      have HA := Lib.hid (HA.out.keeps hk)
      have HL := Lib.hid (HL.out.keeps hk)
      have HKz := Lib.hid (HKz.out.trans hk)
      have HC := Lib.hid (HC.out.keeps hk)
      clear hk
      go_wp2_with fail
      go_loopw [15] (fun i wr => ∃ j : Nat, i = .int .i64 (j : Int) ∧ j ≤ l2.length ∧ Hid (BoxAt wr gc cc1 cc2 (2 * l.length + 2 * j) (all m (recs (l2.take j))) ∧ Mods (BFr gc cc1 cc2) x14 wr)) (fun i _ => l2.length - (RowKit.intOf i).toNat)
      case atStart => exact ⟨0, rfl, Nat.zero_le _, Lib.hid ⟨HC.out, Mods.refl _ _⟩⟩
      case round =>
      obtain ⟨j, rfl, hj, HH⟩ := hrel
      have HKW := Lib.hid ((fun k => Mods.keeps k HKz.out (fun x hx => by have := HCG.out x hx; have := HKC.out.size; omega)) HH.out.2)
      by_cases hlt : j < l2.length
      · obtain ⟨bb, off, cap, hv, hrg⟩ := rowS_rec' (RowS.keeps HR1.out HKW.out) hlt
        simp only [Value.slice.injEq] at hv
        obtain ⟨rfl, -, rfl⟩ := hv
        have HG := Lib.hid hrg
        have HTA := Lib.hid (take_any wr HH.out.1 (by omega) l2[j].1 l2[j].2 ((HW1.out l2[j] (List.getElem_mem hlt)).keeps HKW.out))
        have HN := Lib.hid (recs_all m l2 hlt)
        clear hrg
        generalize take (all m (recs (l2.take j))) l2[j].1 = tk at *
        go_wp2_with (refine wpList_ldR rfl recM HG.out _ rfl rfl ?_)
        refine HTA.out.mono ?_
        rintro e z1 ⟨rfl, hb, hm⟩
        have HBz := Lib.hid hb
        have HMz := Lib.hid (HH.out.2.trans hm (fun x hx _ => hx))
        clear hb hm
        go_wp2_with fail
        go_roundw
        case rel => exact ⟨j + 1, by simp, by omega, Lib.hid ⟨by rw [HN.out]; exact HBz.out.mono (by omega), HMz.out⟩⟩
        case measure =>
          simp only [RowKit.intOf]
          omega
      obtain rfl : j = l2.length := by omega
      rw [List.take_length] at HH
      obtain ⟨y8, rfl⟩ : ∃ z : World, z = wr := ⟨_, rfl⟩
      clear hlt hj
      have hdBC : ∀ x, BFr g b1 b2 x → ¬ BFr gc cc1 cc2 x := fun x hx hy => by have := HBC.out x hx; have := HCG.out x hy; omega
      have hdAC : ∀ x, BFr ga a1 a2 x → ¬ BFr gc cc1 cc2 x := fun x hx hy => by have := HAC.out x hx; have := HCG.out x hy; omega
      have HE24 := Lib.hid (HE24.out.box' HC.out HH.out.2)
      have HB := Lib.hid (HB.out.apart HH.out.2 hdBC)
      have HA := Lib.hid (HA.out.apart HH.out.2 hdAC)
      have HC := Lib.hid HH.out.1
      have HKz := HKW
      have HBCD := Lib.hid hdBC
      have hs2 := st_all (recs l2) m L l.length HST.out (by simp [recs]; omega)
      have HS2 := Lib.hid hs2
      have HWBD := Lib.hid (show ∀ e ∈ L, (Lit.int .i64 e.body).wf = true from fun e he => i64wf (by have hg := HGD.out e he; have := hg.b1; have := hg.b2; omega))
      clear hdBC hdAC HH HKW HL HE20 HE21 HE22 HE23 hs2
      generalize ham2 : all m (recs l2) = m2 at *
      have HAM2 := Lib.hid ham2
      clear ham2
      generalize allL L (recs l2) = L2 at *
      go_wp2_with fail
      refine (list_any y8 HB.out (by omega) HST.out.rel HWF.out true).mono ?_
      rintro e x101 ⟨v, rfl, hen, hk⟩
      rw [filt_true] at hen
      obtain ⟨p25, c25, rfl, -, -⟩ := Frm.ownsRow_form hen
      have HE25 := Lib.hid hen.r
      clear hen
      have HE24 := Lib.hid (HE24.out.keeps hk)
      have HB := Lib.hid (HB.out.keeps hk)
      have HA := Lib.hid (HA.out.keeps hk)
      have HC := Lib.hid (HC.out.keeps hk)
      have HKz := Lib.hid (HKz.out.trans hk)
      clear hk
      go_wp2_with fail
      refine (sameEnts_any x101 HE25.out (EntsAt.r HE24.out)).mono ?_
      rintro e x102 ⟨rfl, hk⟩
      have HB := Lib.hid (HB.out.keeps hk)
      have HA := Lib.hid (HA.out.keeps hk)
      have HC := Lib.hid (HC.out.keeps hk)
      have HKz := Lib.hid (HKz.out.trans hk)
      clear hk
      go_wp2_with fail
      refine (bodies_any x102 HB.out (by omega) HST.out.rel HWF.out HWBD.out).mono ?_
      rintro e x103 ⟨v, bl1, rfl, hob, hba1, hbm1, hk⟩
      obtain ⟨p26, c26, rfl, -, -⟩ := hob.row.form
      rw [List.length_map] at hob ⊢
      have HO26 := Lib.hid hob
      have HBA1 := Lib.hid (And.intro hba1 hbm1)
      clear hob hba1 hbm1
      have HB := Lib.hid (HB.out.keeps hk)
      have HA := Lib.hid (HA.out.keeps hk)
      have HC := Lib.hid (HC.out.keeps hk)
      have HKz := Lib.hid (HKz.out.trans hk)
      clear hk
      go_wp2_with fail
      refine (bodies_any x103 HA.out (by omega) HSA.out.rel HWF.out HWBD.out).mono ?_
      rintro e x104 ⟨v, bl2, rfl, hob, hba2, hbm2, hk⟩
      obtain rfl : bl1 = bl2 := asc_ext HBA1.out.1 hba2 (fun x => by rw [HBA1.out.2, hbm2])
      obtain ⟨p27, c27, rfl, -, -⟩ := hob.row.form
      rw [List.length_map] at hob ⊢
      have HO27 := Lib.hid hob
      have HO26 := Lib.hid (HO26.out.keeps hk)
      clear hob hba2 hbm2
      have HB := Lib.hid (HB.out.keeps hk)
      have HA := Lib.hid (HA.out.keeps hk)
      have HC := Lib.hid (HC.out.keeps hk)
      have HKz := Lib.hid (HKz.out.trans hk)
      clear hk
      go_wp2_with fail
      refine (sameInts_any x104 HO26.out HO27.out).mono ?_
      rintro e x105 ⟨rfl, hk⟩
      have HB := Lib.hid (HB.out.keeps hk)
      have HA := Lib.hid (HA.out.keeps hk)
      have HC := Lib.hid (HC.out.keeps hk)
      have HKz := Lib.hid (HKz.out.trans hk)
      clear hk
      go_wp2_with fail
      go_loopw [16] (fun i wr => ∃ j : Nat, i = .int .i64 (j : Int) ∧ j ≤ l2.length ∧ Hid (BoxAt wr g b1 b2 (2 * l.length + 2 * j) (all m (recs (l2.take j))) ∧ Mods (BFr g b1 b2) x105 wr)) (fun i _ => l2.length - (RowKit.intOf i).toNat)
      case atStart => exact ⟨0, rfl, Nat.zero_le _, Lib.hid ⟨HB.out, Mods.refl _ _⟩⟩
      case round =>
      obtain ⟨j, rfl, hj, HH⟩ := hrel
      have HKW := Lib.hid ((fun k => Mods.keeps k HKz.out HGE.out) HH.out.2)
      by_cases hlt : j < l2.length
      · obtain ⟨bb, off, cap, hv, hrg⟩ := rowS_rec' (RowS.keeps HR1.out HKW.out) hlt
        simp only [Value.slice.injEq] at hv
        obtain ⟨rfl, -, rfl⟩ := hv
        have HG := Lib.hid hrg
        have HTA := Lib.hid (take_any wr HH.out.1 (by omega) l2[j].1 l2[j].2 ((HW1.out l2[j] (List.getElem_mem hlt)).keeps HKW.out))
        have HN := Lib.hid (recs_all m l2 hlt)
        clear hrg
        generalize take (all m (recs (l2.take j))) l2[j].1 = tk at *
        go_wp2_with (refine wpList_ldR rfl recM HG.out _ rfl rfl ?_)
        refine HTA.out.mono ?_
        rintro e z1 ⟨rfl, hb, hm⟩
        have HBz := Lib.hid hb
        have HMz := Lib.hid (HH.out.2.trans hm (fun x hx _ => hx))
        clear hb hm
        go_wp2_with fail
        go_roundw
        case rel => exact ⟨j + 1, by simp, by omega, Lib.hid ⟨by rw [HN.out]; exact HBz.out.mono (by omega), HMz.out⟩⟩
        case measure =>
          simp only [RowKit.intOf]
          omega
      obtain rfl : j = l2.length := by omega
      rw [List.take_length] at HH
      obtain ⟨y9, rfl⟩ : ∃ z : World, z = wr := ⟨_, rfl⟩
      clear hlt hj
      have HC := Lib.hid (HC.out.apart HH.out.2 (fun x hx hy => HBCD.out x hy hx))
      have HB := Lib.hid HH.out.1
      have HKz := HKW
      clear HH HKW HA HE24 HE25 HO26 HO27 HBA1
      have HWF2 := Lib.hid (show ∀ e ∈ L2, (Lit.int .i64 e.uid).wf = true from fun e he => i64wf (by have := HS2.out.uid e he; omega))
      have HM2 : Hid (all m (recs l2) = m2) := HAM2
      rw [HM2.out] at HB
      go_wp2_with fail
      refine (list_any y9 HB.out (by omega) HS2.out.rel HWF2.out true).mono ?_
      rintro e x106 ⟨v, rfl, hen, hk⟩
      rw [filt_true] at hen
      obtain ⟨p28, c28, rfl, -, -⟩ := Frm.ownsRow_form hen
      have HE28 := Lib.hid hen.r
      clear hen
      have HB := Lib.hid (HB.out.keeps hk)
      have HC := Lib.hid (HC.out.keeps hk)
      have HKz := Lib.hid (HKz.out.trans hk)
      clear hk
      go_wp2_with fail
      refine (list_any x106 HC.out (by omega) HS2.out.rel HWF2.out true).mono ?_
      rintro e x107 ⟨v, rfl, hen, hk⟩
      rw [filt_true] at hen
      obtain ⟨p29, c29, rfl, -, -⟩ := Frm.ownsRow_form hen
      have HE29 := Lib.hid hen.r
      clear hen
      have HE28 := Lib.hid (HE28.out.keeps hk)
      have HB := Lib.hid (HB.out.keeps hk)
      have HC := Lib.hid (HC.out.keeps hk)
      have HKz := Lib.hid (HKz.out.trans hk)
      clear hk
      go_wp2_with fail
      refine (sameEnts_any x107 HE28.out HE29.out).mono ?_
      rintro e x108 ⟨rfl, hk⟩
      have HB := Lib.hid (HB.out.keeps hk)
      have HC := Lib.hid (HC.out.keeps hk)
      have HKz := Lib.hid (HKz.out.trans hk)
      clear hk
      go_wp2_with fail
      refine (next_kk x108 HB.out).mono ?_
      rintro e x109 ⟨rfl, hk⟩
      have HB := Lib.hid (HB.out.keeps hk)
      have HC := Lib.hid (HC.out.keeps hk)
      have HKz := Lib.hid (HKz.out.trans hk)
      clear hk
      go_wp2_with fail
      refine (next_kk x109 HC.out).mono ?_
      rintro e x110 ⟨rfl, hk⟩
      have HB := Lib.hid (HB.out.keeps hk)
      have HC := Lib.hid (HC.out.keeps hk)
      have HKz := Lib.hid (HKz.out.trans hk)
      clear hk
      go_wp2_with fail
      refine (use_any x110 HB.out).mono ?_
      rintro e x111 ⟨rfl, hk⟩
      have HB := Lib.hid (HB.out.keeps hk)
      have HC := Lib.hid (HC.out.keeps hk)
      have HKz := Lib.hid (HKz.out.trans hk)
      clear hk
      go_wp2_with fail
      refine (use_any x111 HC.out).mono ?_
      rintro e x112 ⟨rfl, hk⟩
      have HB := Lib.hid (HB.out.keeps hk)
      have HC := Lib.hid (HC.out.keeps hk)
      have HKz := Lib.hid (HKz.out.trans hk)
      clear hk
      go_wp2_with fail
      go_ret
      exact ⟨rfl, HKz.out⟩
end Mbx
end Go.Proofs.Ytohchhgheeolpaa
