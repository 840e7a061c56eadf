/- envel.Bytes. -/
import Derived.Test.YtcleakjjefmmbaaGreatK41
namespace Go.Proofs.YtcleakjjefmmbaaGreat
open Go.RowKit
namespace Env
open Adr (goodB Str)
open Oct (be u8ok RetS)
open Frm (Sole RetSI wrap_any wrapL wrapE)
theorem stsL_append (a : Int) : ∀ (l m : List StP) (i : Nat), stsL a i (l ++ m) = stsL a i l ++ stsL a (i + l.length) m
 | [], m, i => by simp [stsL]
 |x :: l, m, i => by
  simp only [List.cons_append, stsL, List.length_cons]
  rw [stsL_append a l m (i + 1), List.append_assoc, show i + 1 + l.length = i + (l.length + 1) by omega]
theorem stsL_next (a : Int) {l : List StP} {i : Nat} (h : i < l.length) : stsL a 0 (l.take (i + 1)) = stsL a 0 (l.take i) ++ (if l[i] = freshS a then [] else stepL i l[i]) := by
 rw [List.take_succ_eq_append_getElem h, stsL_append]
 simp only [stsL, List.append_nil, Nat.zero_add, List.length_take]
 rw [Nat.min_eq_left (by omega)]
theorem stepL_le (k : Int) (x : StP) : (stepL k x).length ≤ 131091 := by
 unfold stepL
 split
 ·exact wrapL_le
 ·simp
theorem stsL_le (a : Int) : ∀ (l : List StP) (i : Nat), (stsL a i l).length ≤ 131091 * l.length
 | [], i => by simp [stsL]
 |x :: l, i => by
  have h1 := stsL_le a l (i + 1)
  have h2 := stepL_le i x
  simp only [stsL, List.length_append, List.length_cons]
  split
  ·simp; omega
  ·omega
set_option maxRecDepth 100000 in
set_option maxHeartbeats 2000000 in
theorem bytes_any (w : World) (j : JobP) (vt vs vb : Value) (h : JobAt w j vt vs vb) (hsh : Short j) : Calls Tryz.prog 59 #[.agg (jobA j vt vs vb)] w (RetSI w (bytesL j) (bytesE j)) := by
 obtain ⟨pt, ct, rfl, hct1, hct2⟩ := h.tos.form
 obtain ⟨ps, cs, rfl, hcs1, hcs2⟩ := h.st.form
 obtain ⟨pb, cb, rfl, hcb1, hcb2⟩ := h.body.formB
 have HJ := Lib.hid h
 have HB := Lib.hid (Blk.new w 55 (jobA j (.slice pt j.tos.length ct) (.slice ps j.st.length cs) (.slice pb j.body.length cb)) rfl)
 have HK := Lib.hid ((Keeps.refl w).alloc (.cells (jobA j (.slice pt j.tos.length ct) (.slice ps j.st.length cs) (.slice pb j.body.length cb)) 55))
 have HG := Lib.hid (goodJ_any _ j _ _ _ (h.keeps HK.out) hsh)
 have HE := Lib.hid (show bytesE j = (if goodJ j then 0 else 3) from rfl)
 have HL := Lib.hid (show bytesL j = (if goodJ j then wrapL 16 (envL j) ++ wrapL 17 j.body ++ stsL j.arr 0 j.st else []) from rfl)
 have HGJ := Lib.hid (show goodJ j = true → ∃ n m, JobN j n m ∧ j.st.length ≤ 20 ∧ j.st.all goodStB = true from fun hg => by
  unfold goodJ at hg
  simp only [Bool.and_eq_true, decide_eq_true_eq] at hg
  obtain ⟨n, m, hn⟩ := envB_nat hg.1.1.1
  exact ⟨n, m, hn, by rw [hg.1.1.2]; exact hn.cnt.2, hg.2⟩)
 generalize bytesE j = er at *
 generalize bytesL j = L at *
 clear h hsh
 generalize goodJ j = gj at *
 go_enter Tryz.func59, Tryz.ntmps59
 go_wp2_with (refine wpList_ld rfl jobM HB.out _ rfl rfl ?_)
 refine HG.out.mono ?_
 rintro e w1 ⟨rfl, hk⟩
 have HB1 := Lib.hid (HB.out.keeps hk)
 have HK1 := Lib.hid (HK.out.trans hk)
 clear hk HB HK HG
 generalize hg : w.heap.size = g at *
 have HGE := Lib.hid hg
 clear hg
 cases gj with
 |false =>
  have HX := Lib.hid (show er = 3 from by rw [HE.out]; rfl)
  have HY := Lib.hid (show L = [] from by rw [HL.out]; rfl)
  go_wp2_with fail
  exact bodyPost_ret (v := .tuple #[.slice none 0 0, .int .i64 3]) (by simp [results, Tryz.results59, go_sem]) rfl ⟨_, by rw [HX.out], by rw [HY.out]; exact Own.nil _ _ _, HK1.out⟩
 |true =>
 obtain ⟨n, m, hn, hs20, hall⟩ := HGJ.out rfl
 have HX := Lib.hid (show er = 0 from by rw [HE.out]; rfl)
 have HY := Lib.hid (show L = wrapL 16 (envL j) ++ wrapL 17 j.body ++ stsL j.arr 0 j.st from by rw [HL.out]; rfl)
 have HEV := Lib.hid (env_any w1 j _ _ _ (HJ.out.keeps HK1.out) n m hn)
 clear HGJ HE HL hn
 generalize envL j = P at *
 go_wp2_with (refine wpList_ld rfl jobM HB1.out _ rfl rfl ?_)
 refine HEV.out.mono ?_
 rintro e w2 ⟨v2, rfl, ho, hk⟩
 have HO2 := Lib.hid ho
 have HB2 := Lib.hid (HB1.out.keeps hk)
 have HK2 := Lib.hid (HK1.out.trans hk)
 obtain ⟨p2, n2, c2, rfl⟩ := ho.sl
 clear ho hk HB1 HEV HK1
 go_wp2_with fail
 refine (wrap_any 16 _ P w2 HO2.out.row).mono ?_
 rintro e w3 ⟨v3, rfl, ho, hk⟩
 have HO3 := Lib.hid (ho.lower (base' := g) (by rw [← HGE.out]; exact HK2.out.size))
 have HB3 := Lib.hid (HB2.out.keeps hk)
 have HK3 := Lib.hid (HK2.out.trans hk)
 obtain ⟨p3, c3, rfl, hc3⟩ := ho.row.form
 clear ho hk HB2 HO2 HK2
 have b6 : w3.cell? ⟨g, 6, none⟩ = some (.slice pb j.body.length cb) := by rw [HB3.out.cell]; rfl
 have HLA := Lib.hid (wrapL_le (k := 16) (p := P))
 generalize wrapE 16 P.length = er1 at *
 generalize wrapL 16 P = A at *
 rw [List.length_map] at HO3 ⊢
 go_wp2_with fail
 refine (wrap_any 17 _ j.body w3 (HJ.out.body.keeps HK3.out)).mono ?_
 rintro e w4 ⟨v4, rfl, ho, hk⟩
 have HO4 := Lib.hid ho
 have HOA := Lib.hid (HO3.out.keeps hk)
 have HB4 := Lib.hid (HB3.out.keeps hk)
 have HK4 := Lib.hid (HK3.out.trans hk)
 obtain ⟨p4, c4, rfl, hc4⟩ := ho.row.form
 clear ho hk HB3 HO3 HK3 b6
 have HLB := Lib.hid (wrapL_le (k := 17) (p := j.body))
 generalize wrapE 17 j.body.length = er2 at *
 generalize wrapL 17 j.body = B at *
 rw [List.length_map] at HO4 ⊢
 have hgz : g ≤ w4.heap.size := by rw [← HGE.out]; exact HK4.out.size
 have hla := HLA.out
 have hlb := HLB.out
 go_upto_region 6 with (at_builtin; refine wpList_app1 (base := g) u8ok rfl _ _ rfl (.slice p3 A.length c3) (.slice p4 B.length c4) (A.map u8v) (B.map u8v) rfl rfl HOA.out HO4.out.row (oneCell_map_u8 _) (by simp; omega) (by omega) hgz ?_; intro v5 w5 ho5 hg5 hf5; have HG5 := Lib.hid (And.intro ho5 hg5); clear ho5 hg5 hf5)
 have HB5 := Lib.hid (HB4.out.grown HG5.out.2 (HOA.out.blk_ne HB4.out (by decide)))
 have HK5 := Lib.hid (HK4.out.grown HG5.out.2 (by rw [HGE.out]; exact HOA.out.base))
 have HO5 := Lib.hid (show Own w5 g 5 v5 ((A ++ B).map u8v) from by rw [List.map_append]; exact HG5.out.1)
 have HAB := Lib.hid (show (A ++ B).length ≤ 262182 from by simp; omega)
 clear HG5 HB4 HK4 HOA HO4 HLA HLB
 generalize A ++ B = AB at *
 have b5 : w5.cell? ⟨g, 5, none⟩ = some (.slice ps j.st.length cs) := by rw [HB5.out.cell]; rfl
 go_wp2_with fail
 clear b5
 go_loopw [4, 6, 31] (fun ov bv iv wr => ∃ (i : Nat) (O : List UInt8), iv = .int .i64 (i : Int) ∧ i ≤ j.st.length ∧ Hid (O = AB ++ stsL j.arr 0 (j.st.take i)) ∧ Hid (Own wr g 5 ov (O.map u8v)) ∧ Hid (Keeps w wr) ∧ Hid (Blk wr g 55 (jobA j (.slice pt j.tos.length ct) (.slice ps j.st.length cs) (.slice pb j.body.length cb)))) (fun _ _ iv _ => j.st.length - (intOf iv).toNat)
 case atStart => exact ⟨0, AB, rfl, Nat.zero_le _, Lib.hid (by simp [stsL]), HO5, HK5, HB5⟩
 case round =>
  obtain ⟨i, O, rfl, hi, HOE, HO, HK, HB⟩ := hrel
  obtain ⟨po, co, rfl, hpo⟩ := HO.out.row.form
  rw [List.length_map] at HO hpo ⊢
  by_cases hlt : i < j.st.length
  ·have hw : IntKind.i64.wrap ((i : Int) + 1) = (i : Int) + 1 := IntWalk.i64_in _ (by omega)
   obtain ⟨b2, off, cap, hv, hrg⟩ := rowS_at stC_len (HJ.out.keeps HK.out).st hlt
   simp only [Value.slice.injEq] at hv
   obtain ⟨rfl, -, rfl⟩ := hv
   have HN := Lib.hid (stsL_next j.arr hlt)
   have HLO := Lib.hid (show O.length ≤ 3000000 from by
    have h1 := stsL_le j.arr (j.st.take i) 0
    have h2 := HAB.out
    rw [HOE.out, List.length_append]
    rw [List.length_take] at h1
    omega)
   have HST := Lib.hid (fun w => stepS_any w (i : Int) j.st[i])
   have HLS := Lib.hid (stepL_le i j.st[i])
   generalize j.st[i] = x at *
   obtain ⟨s, t, d, c⟩ := x
   have HRG := Lib.hid (show wr.rangeAt b2 (off + i * 4) [.int .i64 s, .int .i64 t, .int .i64 d, .int .i64 c] from hrg)
   clear hrg
   obtain ⟨nf, hnf⟩ : ∃ b, decide ((⟨s, t, d, c⟩ : StP) ≠ freshS j.arr) = b := ⟨_, rfl⟩
   have HNF := Lib.hid hnf
   have HX := Lib.hid (fun w' : World => show (if s = 0 then if t = 0 then if d = j.arr then if c = 0 then Result.ok (Next.value (Value.bool false)) w' else Result.ok (Next.value (Value.bool true)) w' else Result.ok (Next.value (Value.bool true)) w' else Result.ok (Next.value (Value.bool true)) w' else Result.ok (Next.value (Value.bool true)) w') = Result.ok (Next.value (Value.bool nf)) w' from by
    rw [← hnf]
    unfold freshS
    by_cases h1 : s = 0 <;> by_cases h2 : t = 0 <;> by_cases h3 : d = j.arr <;> by_cases h4 : c = 0 <;> simp [h1, h2, h3, h4])
   clear hnf
   go_upto_region 9 with (refine wpList_ldR rfl stM HRG.out _ rfl rfl ?_)
   generalize hW : World.alloc wr _ = y1
   have HKy := Lib.hid (show Keeps wr y1 from by rw [← hW]; exact (Keeps.refl _).alloc _)
   have HFy := Lib.hid (show Blk y1 wr.heap.size 57 #[.int .i64 s, .int .i64 t, .int .i64 d, .int .i64 c] from by rw [← hW]; exact Blk.new _ _ _ rfl)
   clear hW HRG
   obtain ⟨q, hq⟩ : ∃ q, q = wr.heap.size := ⟨_, rfl⟩
   rw [← hq] at HFy ⊢
   clear hq
   have HBy := Lib.hid (HB.out.keeps HKy.out)
   have q0 : y1.cell? ⟨q, 0, none⟩ = some (.int .i64 s) := by rw [HFy.out.cell]; rfl
   have q1 : y1.cell? ⟨q, 1, none⟩ = some (.int .i64 t) := by rw [HFy.out.cell]; rfl
   have q2 : y1.cell? ⟨q, 2, none⟩ = some (.int .i64 d) := by rw [HFy.out.cell]; rfl
   have q3 : y1.cell? ⟨q, 3, none⟩ = some (.int .i64 c) := by rw [HFy.out.cell]; rfl
   have g1 : y1.cell? ⟨g, 1, none⟩ = some (.int .i64 j.arr) := by rw [HBy.out.cell]; rfl
   refine wp_region_noPanic ?_
   refine wp_region_held_drew (S := fun w' => Keeps y1 w') (by kernel_rfl) (((Keeps.refl y1).drew)) (fun _ => ?_)
   have hHeld : Keeps y1 (y1).drew := ((Keeps.refl y1).drew)
   generalize World.drew y1 = xs at *
   refine tq 0 36 ?_ (hy := fun w' hSw => by
    have hSw : Keeps y1 w' := hSw
    have h0 := keep1 hSw q0
    have h1 := keep1 hSw q1
    have h2 := keep1 hSw q2
    have h3 := keep1 hSw q3
    clear hSw
    go_simp
    try with_reducible rfl)
   refine tq 1 37 ?_
   refine tq 2 38 ?_ (hy := fun w' hSw => by
    have hSw : Keeps y1 w' := hSw
    have h0 := keep1 hSw g1
    clear hSw
    go_simp
    try with_reducible rfl)
   refine rd1 3 (fun K hK => ?_)
   go_simp
   refine (fresh_any _ _).mono ?_
   rintro e z1 ⟨rfl, hk⟩
   have hb := hHeld.trans hk
   clear hk
   go_wp2_with fail
   refine bkm hK hb ?_
   clear hK K hHeld
   have hHeld : Keeps y1 z1 := hb
   clear hb
   refine tq 4 40 ?_ (hy := fun w' hSw => by
    have hSw : Keeps y1 w' := hSw
    go_simp
    exact HX.out w')
   refine wpAnyH_done (by kernel_rfl) ?_ _
   refine NoPanic.normal ?_
   have HZ := Lib.hid (HFy.out.keeps hHeld)
   have HKz := Lib.hid (HK.out.trans (HKy.out.trans hHeld))
   have HOz := Lib.hid (HO.out.keeps (HKy.out.trans hHeld))
   have HBz := Lib.hid (HBy.out.keeps hHeld)
   clear hHeld q0 q1 q2 q3 g1 HFy HBy HKy HB
   cases nf with
   |false =>
    have HOE2 := Lib.hid (show O = AB ++ stsL j.arr 0 (j.st.take (i + 1)) from by
     rw [HN.out, if_pos (by simpa using HNF.out), List.append_nil]
     exact HOE.out)
    go_wp2_with fail
    go_roundw
    case rel => exact ⟨i + 1, O, by simp, by omega, HOE2, HOz, HKz, HBz⟩
    case measure =>
     simp only [intOf]
     omega
   |true =>
    have HOE2 := Lib.hid (show O ++ stepL i ⟨s, t, d, c⟩ = AB ++ stsL j.arr 0 (j.st.take (i + 1)) from by
     rw [HN.out, if_neg (by simpa using HNF.out), ← List.append_assoc]
     rw [← HOE.out])
    have hls := HLS.out
    have hlo := HLO.out
    clear HN HNF HX
    generalize stepL i ⟨s, t, d, c⟩ = S at *
    generalize stepE i ⟨s, t, d, c⟩ = se at *
    go_wp2_with (refine wpList_ld rfl stM HZ.out _ rfl rfl ?_)
    refine (HST.out _).mono ?_
    rintro e z2 ⟨v6, rfl, ho, hk⟩
    have HO6 := Lib.hid ho
    have HOw := Lib.hid (HOz.out.keeps hk)
    have HBw := Lib.hid (HBz.out.keeps hk)
    have HKw := Lib.hid (HKz.out.trans hk)
    obtain ⟨p6, c6, rfl, -⟩ := ho.row.form
    clear ho hk
    rw [List.length_map] at HO6 ⊢
    have hgz2 : g ≤ z2.heap.size := by rw [← HGE.out]; exact HKw.out.size
    go_wp2_with (at_builtin; refine wpList_app1 (base := g) u8ok rfl _ _ rfl (.slice po O.length co) (.slice p6 S.length c6) (O.map u8v) (S.map u8v) rfl rfl HOw.out HO6.out.row (oneCell_map_u8 _) (by simp; omega) (by omega) hgz2 ?_; intro v7 w7 ho7 hg7 hf7; have HG7 := Lib.hid (And.intro ho7 hg7); clear ho7 hg7 hf7)
    go_roundw
    case rel =>
     refine ⟨i + 1, O ++ S, by simp, by omega, HOE2, Lib.hid ?_, Lib.hid (HKw.out.grown HG7.out.2 (by rw [HGE.out]; exact HOw.out.base)), Lib.hid (HBw.out.grown HG7.out.2 (HOw.out.blk_ne HBw.out (by decide)))⟩
     rw [List.map_append]
     exact HG7.out.1
    case measure =>
     simp only [intOf]
     omega
  ·have HF := Lib.hid (show O = L from by
    rw [HOE.out, List.take_of_length_le (by omega)]
    exact HY.out.symm)
   go_wp2_with fail
   exact bodyPost_ret (v := .tuple #[.slice po O.length co, .int .i64 0]) (by simp [results, Tryz.results59, go_sem]) rfl ⟨_, by rw [HX.out], by rw [← HF.out, HGE.out]; exact HO.out, HK.out⟩
end Env
end Go.Proofs.YtcleakjjefmmbaaGreat
