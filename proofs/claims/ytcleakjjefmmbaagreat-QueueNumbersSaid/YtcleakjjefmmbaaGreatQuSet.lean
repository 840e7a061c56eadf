/- queue: Set. -/
import Derived.Test.YtcleakjjefmmbaaGreatQuAdd
import Derived.Test.YtcleakjjefmmbaaGreatK45
import Derived.Test.YtcleakjjefmmbaaGreatK39
import Derived.Test.YtcleakjjefmmbaaGreatK40
import Derived.Test.YtcleakjjefmmbaaGreatK38
namespace Go.Proofs.YtcleakjjefmmbaaGreat
open Go.RowKit
namespace Que
open Mp Go.Maps
open Vd (DiskAt Dsk On Few More)
open Sf (Says Tells Stays sAppend sSwap sDrop)
open Env (JobP StP TgP JobAt JobOwn tgC stC stA jobA jobD jobM stok tgM stM noJob RdSt bytesL bytesE stepL stepE Short ownsRow_lower3 goodJ doneB rowS_own)
open Bds (SlQ)
open Frm (ownsRow_mods ownsRow_keeps ownsRow_base ownsRow_form ownsRow_ne RetSI)
theorem good_len {j : JobP} (h : goodJ j = true) : j.tos.length ≤ 20 ∧ j.st.length = j.tos.length ∧ j.body.length ≤ 32768 := by
 unfold goodJ at h
 simp only [Bool.and_eq_true, decide_eq_true_eq] at h
 exact ⟨Env.envB_len h.1.1.1, h.1.1.2, h.1.2⟩
theorem good_short {j : JobP} (h : goodJ j = true) : Short j := by
 have h1 := good_len h
 unfold goodJ at h
 simp only [Bool.and_eq_true, decide_eq_true_eq] at h
 have h2 := h.1.1.1
 obtain ⟨a, b, hn⟩ := Env.envB_nat h2
 refine ⟨by have := hn.fr.1; omega, by have := hn.fr.2; omega, fun t ht => ?_, by omega, by omega, by omega⟩
 obtain ⟨⟨u, hu, h3, h4⟩, h5, h6⟩ := hn.all t ht
 refine ⟨by omega, by omega, ?_⟩
 rw [hu]
 simp [Lit.wf, IntKind.min, IntKind.max, IntKind.signed, IntKind.bits]
 omega
/-- the variable holds a clone -/
theorem rd_full {w X Y : World} {jb base : Nat} {j : JobP} {ut us ub : Value} {A : Array Value} (h : JobOwn X base j ut us ub) (hb : w.heap.size ≤ base) (hB0 : Blk X jb 55 A) (hM : Mods (· = jb) X Y) (hB : Blk Y jb 55 (jobD j.id j.arr j.fl j.fd ut us ub)) (hk : Keeps w X) (hj : w.heap.size ≤ jb) :
  RdSt w Y jb w.heap.size j.id j.arr j.fl j.fd ut j.tos us j.st ub j.body (.slice none 0 0) [] := by
 have h1 : X.ownsRow w.heap.size 75 3 ut j.tos.length (j.tos.flatMap tgC) := ownsRow_lower3 h.1 hb
 have h2 : X.ownsRow w.heap.size 57 4 us j.st.length (j.st.flatMap stC) := ownsRow_lower3 h.2.1 hb
 exact ⟨hB, ownsRow_mods h1 hM (fun x hx e => ownsRow_ne h1 hB0 (by decide) (by rw [hx, e])), ownsRow_mods h2 hM (fun x hx e => ownsRow_ne h2 hB0 (by decide) (by rw [hx, e])), frms_nil _ _, (h.2.2.lower hb).modsT hM (fun x hx => by subst hx; exact Env.blk_ty hB0 (by decide)), hM.keeps hk (fun x hx => by rw [hx]; exact hj), hj⟩
theorem stL_le (t : Int) (s : StP) : (stepL t s).length ≤ 10000000 := Nat.le_trans (Env.stepL_le t s) (by decide)
section
variable {A S0 : Nat → Prop} {w0 w : World} {gd g n k : Nat} {d : Dsk} {q : QuP}
set_option maxRecDepth 100000 in
set_option maxHeartbeats 8000000 in
theorem set_any (h : QAt A S0 w0 w gd d k g n q) (hk : k ≤ 80000) (hn : n < 900000) (hg : ∀ p ∈ q.jobs, goodJ p.2.1 = true ∧ p.2.1.id = p.1) (id t : Int) (hid : (Lit.int .i64 id).wf = true) (s : StP) :
  Calls Tryz.prog 21 #[.pointer (some ⟨g, 0, none⟩), .int .i64 id, .int .i64 t, .agg (stA s)] w fun e w' => e = .returned (.int .i64 (qSet q d id t s).2) ∧ QRest A S0 w0 w gd (qSet q d id t s).1.2 (k + 13) g (n + 1) (qSet q d id t s).1.1 w' := by
 unfold stA
 obtain ⟨S, J, b, jv, hx⟩ := h
 have HX0 := Lib.hid hx
 have HG := Lib.hid hg
 have HK := Lib.hid (And.intro hk (And.intro hn hid))
 have HLQ := Lib.hid (look_job hx.qu.jobs id)
 have HK1 := Lib.hid ((Keeps.refl w).alloc (.cells #[.int .i64 s.s, .int .i64 s.t, .int .i64 s.d, .int .i64 s.c] 57))
 have HB1 := Lib.hid (Blk.new w 57 #[.int .i64 s.s, .int .i64 s.t, .int .i64 s.d, .int .i64 s.c] rfl)
 have HX1 := Lib.hid (hx.keeps HK1.out)
 have c2 := HX1.out.qu.cells.2.2.1
 have hlk := HX1.out.qu.map.look hid
 have HGX := Lib.hid (fun y (hy : Mp.look jv id = some y) => show goodJ y.j = true ∧ y.j.id = id from hg (id, y.p) (by rw [← hx.qu.jobs]; exact List.mem_map.2 ⟨_, lookup_mem hy, rfl⟩))
 have HIS := Lib.hid (fun y (hy : Mp.look jv id = some y) => HX1.out.qu.is_ _ (lookup_mem hy))
 have HKB := Lib.hid (Blk.new (w.alloc (.cells #[.int .i64 s.s, .int .i64 s.t, .int .i64 s.d, .int .i64 s.c] 57)) 118 #[.int .i64 0, .int .i64 0, .string ⟨#[]⟩, .string ⟨#[]⟩, .slice none 0 0, .slice none 0 0, .slice none 0 0, .bool false] rfl)
 have HK4 := Lib.hid ((Keeps.refl (w.alloc (.cells #[.int .i64 s.s, .int .i64 s.t, .int .i64 s.d, .int .i64 s.c] 57))).alloc (.cells #[.int .i64 0, .int .i64 0, .string ⟨#[]⟩, .string ⟨#[]⟩, .slice none 0 0, .slice none 0 0, .slice none 0 0, .bool false] 118))
 clear hx hg hk hn hid
 cases hlx : Mp.look jv id with
 |none =>
  have HR := Lib.hid (show qSet q d id t s = ((q, d), 7) from by unfold qSet; rw [HLQ.out, hlx]; rfl)
  rw [hlx] at hlk
  replace hlk : (Instr.lookup 110 (.map (some b)) (.int .i64 id) true).run Tryz.prog (w.alloc (.cells #[.int .i64 s.s, .int .i64 s.t, .int .i64 s.d, .int .i64 s.c] 57)) = .ok (.tuple #[.agg #[.int .i64 0, .int .i64 0, .string ⟨#[]⟩, .string ⟨#[]⟩, .slice none 0 0, .slice none 0 0, .slice none 0 0, .bool false], .bool false]) (w.alloc (.cells #[.int .i64 s.s, .int .i64 s.t, .int .i64 s.d, .int .i64 s.c] 57)) := hlk
  clear hlx
  go_enter Tryz.func21, Tryz.ntmps21
  go_upto_region 1 with fail
  generalize World.alloc w _ = w1 at *
  go_upto_region 2 with (refine wpList_st (ds := #[.int .i64 0, .int .i64 0, .string ⟨#[]⟩, .string ⟨#[]⟩, .slice none 0 0, .slice none 0 0, .slice none 0 0, .bool false]) rfl kpM HKB.out rfl (by simp [Value.oneCell']) _ _ rfl rfl rfl rfl ?_; intro y5 hB5 hM5; have HM5 := Lib.hid hM5; clear hB5 hM5)
  have HK5 := Lib.hid (HM5.out.keeps HK4.out (fun y hy => by rw [hy]; exact Nat.le_refl _))
  have HK6 := Lib.hid (HK1.out.trans HK5.out)
  clear hlk c2 HKB HK4 HM5
  go_wp2_with fail
  go_ret
  rw [HR.out]
  exact ⟨rfl, ⟨_, _, _, _, (HX0.out.keeps HK6.out).more (k' := k + 13) (m := n + 1) (by omega) (by omega)⟩, Mods.of_keeps HK6.out⟩
 |some y =>
  rw [hlx] at hlk
  have HY := Lib.hid (And.intro (HIS.out y hlx) (HGX.out y hlx))
  have HQS := Lib.hid (show qSet q d id t s = if stepE t s ≠ 0 then ((q, d), stepE t s)
   else if (y.j.tos.length : Int) ≤ t then ((q, d), 1)
   else if (setD d id t s y.p).2 ≠ 0 then ((q, (setD d id t s y.p).1), (setD d id t s y.p).2)
   else if doneB (setJ y.j t s) then ((⟨q.next, q.last, del (putL q.jobs id (setJ y.j t s, true)) id⟩, if id < q.last then (sDrop (nameQ id) (setD d id t s y.p).1).1 else (setD d id t s y.p).1), 0)
   else ((⟨q.next, q.last, putL q.jobs id (setJ y.j t s, true)⟩, (setD d id t s y.p).1), 0) from by unfold qSet; rw [HLQ.out, hlx]; rfl)
  replace hlk : (Instr.lookup 110 (.map (some b)) (.int .i64 id) true).run Tryz.prog (w.alloc (.cells #[.int .i64 s.s, .int .i64 s.t, .int .i64 s.d, .int .i64 s.c] 57)) = .ok (.tuple #[.agg #[.int .i64 y.j.id, .int .i64 y.j.arr, .string (bstr y.j.fl), .string (bstr y.j.fd), .slice y.v.s1.p y.v.s1.n y.v.s1.c, .slice y.v.s2.p y.v.s2.n y.v.s2.c, .slice y.v.s3.p y.v.s3.n y.v.s3.c, .bool y.v.wh], .bool true]) (w.alloc (.cells #[.int .i64 s.s, .int .i64 s.t, .int .i64 s.d, .int .i64 s.c] 57)) := by
   rw [hlk]
   show Result.ok (Value.tuple #[kpV y.v, .bool true]) _ = _
   rw [HY.out.1.cells]
   rfl
  clear hlx HIS HGX HLQ
  go_enter Tryz.func21, Tryz.ntmps21
  go_upto_region 1 with fail
  generalize World.alloc w _ = w1 at *
  go_upto_region 2 with (refine wpList_st (ds := #[.int .i64 y.j.id, .int .i64 y.j.arr, .string (bstr y.j.fl), .string (bstr y.j.fd), .slice y.v.s1.p y.v.s1.n y.v.s1.c, .slice y.v.s2.p y.v.s2.n y.v.s2.c, .slice y.v.s3.p y.v.s3.n y.v.s3.c, .bool y.v.wh]) rfl kpM HKB.out rfl (by simp [Value.oneCell']) _ _ rfl rfl rfl rfl ?_; intro y5 hB5 hM5; have HB5 := Lib.hid hB5; have HM5 := Lib.hid hM5; clear hB5 hM5)
  have HK5 := Lib.hid (HM5.out.keeps HK4.out (fun y hy => by rw [hy]; exact Nat.le_refl _))
  have HKW := Lib.hid (HK1.out.trans HK5.out)
  have HS5 := Lib.hid (HB1.out.keeps HK5.out)
  have HY5 := Lib.hid (And.intro (HY.out.1.mods (S := fun _ => False) (Mods.of_keeps HK5.out) (fun _ h => h.elim)) HY.out.2)
  obtain ⟨qb, hqb⟩ : ∃ z, w1.heap.size = z := ⟨_, rfl⟩
  obtain ⟨bs, hbs⟩ : ∃ z, w.heap.size = z := ⟨_, rfl⟩
  rw [hqb] at HB5 ⊢
  rw [hbs] at HS5 ⊢
  have HBS := Lib.hid (And.intro hbs (show w.heap.size ≤ qb from by rw [← hqb]; exact HK1.out.size))
  clear c2 hlk HKB HK4 HM5 HX1 HB1 HY HK5 hqb hbs
  have HSP := Lib.hid (Env.stepS_any y5 t s)
  unfold RetSI at HSP
  obtain ⟨eS, hes⟩ : ∃ z, stepE t s = z := ⟨_, rfl⟩
  obtain ⟨BL, hbl⟩ : ∃ z, stepL t s = z := ⟨_, rfl⟩
  have HLS := Lib.hid (And.intro hes hbl)
  rw [hes] at HQS
  rw [hes, hbl] at HSP
  clear hes hbl
  go_wp2_with (first | refine wpList_ld rfl stM HS5.out _ rfl rfl ?_ | fail)
  refine HSP.out.mono ?_
  rintro e y6 ⟨bv, rfl, ho6, hk6⟩
  obtain ⟨p6, c6, rfl, -, -⟩ := ownsRow_form ho6
  rw [List.length_map] at ho6 ⊢
  have HO6 := Lib.hid (show Own y6 y5.heap.size 5 (.slice p6 BL.length c6) (BL.map u8v) from ho6)
  have HSB := Lib.hid (And.intro HKW.out.size ho6)
  have HKX := Lib.hid (HKW.out.trans hk6)
  have HS6 := Lib.hid (HS5.out.keeps hk6)
  have HB6 := Lib.hid (HB5.out.keeps hk6)
  have HY6 := Lib.hid (And.intro (HY5.out.1.mods (S := fun _ => False) (Mods.of_keeps hk6) (fun _ h => h.elim)) HY5.out.2)
  clear ho6 hk6 HSP HB5 HS5 HY5 HKW
  by_cases he : eS = 0
  ·subst he
   have b4 : y6.cell? ⟨qb, 4, none⟩ = some (.slice y.v.s1.p y.v.s1.n y.v.s1.c) := by rw [HB6.out.cell]; rfl
   have HTN := Lib.hid (show y.v.s1.n = y.j.tos.length from by
    obtain ⟨p', c', hv, -, -⟩ := HY6.out.1.job.at_.tos.form
    unfold SlQ.v at hv
    simp only [Value.slice.injEq] at hv
    exact hv.2.1)
   rw [HTN.out] at b4
   by_cases ht : (y.j.tos.length : Int) ≤ t
   ·have hd : decide ((y.j.tos.length : Int) ≤ t) = true := decide_eq_true ht
    have HR := Lib.hid (show qSet q d id t s = ((q, d), 1) from by rw [HQS.out, if_neg (fun h => h rfl), if_pos ht])
    clear ht
    go_wp2_with fail
    go_ret
    rw [HR.out]
    exact ⟨rfl, ⟨_, _, _, _, (HX0.out.keeps HKX.out).more (k' := k + 13) (m := n + 1) (by omega) (by omega)⟩, Mods.of_keeps HKX.out⟩
   have hd : decide ((y.j.tos.length : Int) ≤ t) = false := decide_eq_false ht
   have HTE := Lib.hid (show ∃ m : Nat, t = m ∧ m < y.j.st.length from by
    have h := HLS.out.1
    unfold stepE at h
    split at h
    ·exact absurd h (by decide)
    ·rename_i hb
     have hb : Env.inB t 0 19 = true := by simpa using hb
     unfold Env.inB at hb
     simp only [Bool.and_eq_true, decide_eq_true_eq] at hb
     exact ⟨t.toNat, by omega, by have := (good_len HY6.out.2.1).2.1; omega⟩)
   rw [if_neg (fun h => h rfl), if_neg ht] at HQS
   clear ht
   have HRG := Lib.hid (show y6.rangeAt qb 0 [.int .i64 y.j.id, .int .i64 y.j.arr, .string (bstr y.j.fl), .string (bstr y.j.fd), .slice y.v.s1.p y.v.s1.n y.v.s1.c, .slice y.v.s2.p y.v.s2.n y.v.s2.c, .slice y.v.s3.p y.v.s3.n y.v.s3.c] from fun i x hx => by
    rw [Nat.zero_add, HB6.out.cell]
    have hi := (List.getElem?_eq_some_iff.1 hx).1
    simp at hi
    have : i = 0 ∨ i = 1 ∨ i = 2 ∨ i = 3 ∨ i = 4 ∨ i = 5 ∨ i = 6 := by omega
    rcases this with rfl | rfl | rfl | rfl | rfl | rfl | rfl <;> exact hx)
   have hln := good_len HY6.out.2.1
   have HCL := Lib.hid (clone_any y6 y.j _ _ _ HY6.out.1.job.at_ (by omega) (by omega) (by omega))
   unfold SlQ.v at HCL
   clear hln
   go_upto_region 10 with (first | refine wpList_ldR rfl jobM HRG.out _ rfl rfl ?_ | (refine HCL.out.mono ?_; rintro e y7 ⟨ut, us, ub, rfl, ho7, hk7⟩; obtain ⟨qt, et, rfl, -, -⟩ := ownsRow_form ho7.1; obtain ⟨qs, es, rfl, -, -⟩ := ownsRow_form ho7.2.1; obtain ⟨qv, ev, rfl, -, -⟩ := ho7.2.2.form; rw [List.length_map] at ho7 ⊢; have HO7 := Lib.hid ho7; have HK7 := Lib.hid hk7; clear ho7 hk7; have HJ7 := Lib.hid (Blk.new y7 55 #[.int .i64 0, .int .i64 0, .string ⟨#[]⟩, .string ⟨#[]⟩, .slice none 0 0, .slice none 0 0, .slice none 0 0] rfl); have HKA := Lib.hid ((Keeps.refl y7).alloc (.cells #[.int .i64 0, .int .i64 0, .string ⟨#[]⟩, .string ⟨#[]⟩, .slice none 0 0, .slice none 0 0, .slice none 0 0] 55))) | (refine wpList_st (ds := jobA y.j (.slice qt y.j.tos.length et) (.slice qs y.j.st.length es) (.slice qv y.j.body.length ev)) rfl jobM HJ7.out rfl (by simp [Value.oneCell']) _ _ rfl rfl rfl rfl ?_; intro y8 hB8 hM8; have HB8 := Lib.hid hB8; have HM8 := Lib.hid hM8; clear hB8 hM8))
   obtain ⟨jb, hjb⟩ : ∃ z, y7.heap.size = z := ⟨_, rfl⟩
   have HJW := Lib.hid (show w.heap.size ≤ jb from by rw [← hjb]; exact (HKX.out.trans HK7.out).size)
   have HRD := Lib.hid (show RdSt w y8 jb w.heap.size y.j.id y.j.arr y.j.fl y.j.fd (.slice qt y.j.tos.length et) y.j.tos (.slice qs y.j.st.length es) y.j.st (.slice qv y.j.body.length ev) y.j.body (.slice none 0 0) [] from
    rd_full (JobOwn.keeps HO7.out HKA.out) HKX.out.size (by rw [← hjb]; exact HJ7.out) (by rw [← hjb]; exact HM8.out) (by rw [← hjb]; exact HB8.out) ((HKX.out.trans HK7.out).trans HKA.out) HJW.out)
   have HK8 := Lib.hid (show Keeps y7 y8 from HM8.out.keeps HKA.out (fun x hx => by rw [hx]; exact Nat.le_refl _))
   have HK6 := Lib.hid (HK7.out.trans HK8.out)
   have HS8 := Lib.hid (HS6.out.keeps HK6.out)
   have HNB := Lib.hid (show jb ≠ qb ∧ jb ≠ bs from by
    have h1 := HB6.out.lt
    have h2 := HS6.out.lt
    have h3 := HK7.out.size
    omega)
   rw [hjb]
   clear HJ7 HKA HB8 HM8 HO7 hjb HCL HRG b4
   obtain ⟨m, rfl, hm⟩ := HTE.out
   obtain ⟨sb, cur, hqs, hBS, hcz⟩ : ∃ sb cur, qs = some ⟨sb, 0, none⟩ ∧ Blk y8 sb 57 cur ∧ y.j.st.length * 4 ≤ cur.size := by
    rcases HRD.out.sts.2 with ⟨h, h0⟩ | ⟨g, cap, cur, h, hb, hgg, h1, h2, h3, h4⟩
    ·omega
    ·simp only [Value.slice.injEq] at h
     obtain ⟨h5, -, -⟩ := h
     exact ⟨g, cur, h5, hgg, by rw [h3]; exact Nat.mul_le_mul_right 4 h1⟩
   subst hqs
   have hml : (m : Int) < (y.j.st.length : Int) := by omega
   have j5 : y8.cell? ⟨jb, 5, none⟩ = some (.slice (some ⟨sb, 0, none⟩) y.j.st.length es) := by rw [HRD.out.job.cell]; rfl
   have r0 : y8.cell? ⟨sb, m * 4, none⟩ = some (cur[m * 4]'(by omega)) := by rw [hBS.cell]; exact Array.getElem?_eq_getElem _
   have r1 : y8.cell? ⟨sb, m * 4 + 1, none⟩ = some (cur[m * 4 + 1]'(by omega)) := by rw [hBS.cell]; exact Array.getElem?_eq_getElem _
   have r2 : y8.cell? ⟨sb, m * 4 + 2, none⟩ = some (cur[m * 4 + 2]'(by omega)) := by rw [hBS.cell]; exact Array.getElem?_eq_getElem _
   have r3 : y8.cell? ⟨sb, m * 4 + 3, none⟩ = some (cur[m * 4 + 3]'(by omega)) := by rw [hBS.cell]; exact Array.getElem?_eq_getElem _
   have g0 : y8.frozen? ⟨sb, m * 4, none⟩ = false := hBS.frozen _
   have g1 : y8.frozen? ⟨sb, m * 4 + 1, none⟩ = false := hBS.frozen _
   have g2 : y8.frozen? ⟨sb, m * 4 + 2, none⟩ = false := hBS.frozen _
   have g3 : y8.frozen? ⟨sb, m * 4 + 3, none⟩ = false := hBS.frozen _
   have HR9 := Lib.hid (HRD.out.setS1 rfl m hm s.s s.t s.d s.c)
   have HSB2 := Lib.hid (show w.heap.size ≤ sb from ownsRow_base HRD.out.sts sb rfl)
   have HM9 := Lib.hid (show Mods (· = sb) y8 ((((y8.setCell ⟨sb, m * 4, none⟩ (.int .i64 s.s)).setCell ⟨sb, m * 4 + 1, none⟩ (.int .i64 s.t)).setCell ⟨sb, m * 4 + 2, none⟩ (.int .i64 s.d)).setCell ⟨sb, m * 4 + 3, none⟩ (.int .i64 s.c)) from
    ((((Mods.refl (· = sb) y8).setCell (p := ⟨sb, m * 4, none⟩) (fun _ => rfl) _).setCell (p := ⟨sb, m * 4 + 1, none⟩) (fun _ => rfl) _).setCell (p := ⟨sb, m * 4 + 2, none⟩) (fun _ => rfl) _).setCell (p := ⟨sb, m * 4 + 3, none⟩) (fun _ => rfl) _)
   go_upto_region 11 with (refine wpList_ld rfl stM HS8.out _ rfl rfl ?_)
   generalize World.setCell (World.setCell (World.setCell (World.setCell y8 _ _) _ _) _ _) _ _ = y9 at *
   have HST := Lib.hid (show (⟨y.j.id, y.j.arr, y.j.fl, y.j.fd, y.j.tos, y.j.st.set m ⟨s.s, s.t, s.d, s.c⟩, y.j.body⟩ : JobP) = setJ y.j m s from rfl)
   have HO9 := Lib.hid (show JobOwn y9 w.heap.size (setJ y.j m s) (.slice qt y.j.tos.length et) (.slice (some ⟨sb, 0, none⟩) y.j.st.length es) (.slice qv y.j.body.length ev) from ⟨HR9.out.tos, HR9.out.sts, HR9.out.bd⟩)
   have HBJ := Lib.hid (show Blk y9 jb 55 (jobA (setJ y.j m s) (.slice qt y.j.tos.length et) (.slice (some ⟨sb, 0, none⟩) y.j.st.length es) (.slice qv y.j.body.length ev)) from HR9.out.job)
   have HKW := Lib.hid (show Keeps w y9 from HR9.out.keeps)
   have HGJ := Lib.hid (show goodJ (setJ y.j m s) = true ∧ (setJ y.j m s).id = id ∧ (setJ y.j m s).st.length = y.j.st.length from ⟨setJ_good HY6.out.2.1 HLS.out.1, HY6.out.2.2, by show (y.j.st.set _ _).length = _; rw [List.length_set]⟩)
   have HX9 := Lib.hid (HX0.out.jobs HKW.out)
   have HB9 := Lib.hid (show y9.cell? ⟨qb, 7, none⟩ = some (.bool y.v.wh) from by
    have hne : qb ≠ sb := fun e => by
     have h1 := (HB6.out.keeps HK6.out)
     unfold Blk at h1 hBS
     rw [e, hBS] at h1
     simp at h1
    rw [((HB6.out.keeps HK6.out).mods HM9.out hne).cell]
    rfl)
   have HL9 := Lib.hid (show Own y9 y5.heap.size 5 (.slice p6 BL.length c6) (BL.map u8v) from ownsRow_mods (Own.keeps HO6.out HK6.out) HM9.out (fun x hx e => Own.blk_ne (Own.keeps HO6.out HK6.out) hBS (by decide) (by rw [← e]; exact hx)))
   obtain ⟨J9, hJ9⟩ : ∃ z, MoreJ J w y9 = z := ⟨_, rfl⟩
   have HJS := Lib.hid (show ∀ x, w.heap.size ≤ x → x < y9.heap.size → J9 x from fun x h1 h2 => by rw [← hJ9]; exact .inr ⟨h1, h2⟩)
   have HSZ := Lib.hid (show w.heap.size ≤ y5.heap.size from HSB.out.1)
   rw [hJ9] at HX9
   clear hBS hcz r0 r1 r2 r3 g0 g1 g2 g3 j5 HR9 HM9 HRD HO6 HS8 HS6 HK7 HK8 HKX hJ9 hm hml hd
   generalize hj : setJ y.j m s = j9 at *
   have HJX := Lib.hid (show JobJ y9 J9 j9 (.slice qt y.j.tos.length et) (.slice (some ⟨sb, 0, none⟩) y.j.st.length es) (.slice qv y.j.body.length ev) from JobOwn.stay HO9.out HJS.out)
   have HJB9 := Lib.hid (show J9 jb from HJS.out jb HJW.out HBJ.out.lt)
   have HFR := Lib.hid (show ∀ x, S x → ¬ A x ∧ (S0 x ∨ w0.heap.size ≤ x) from fun x hx => HX9.out.free hx)
   have HSD := Lib.hid (show setD d id m s y.p = if y.v.wh then sAppend (nameQ id) BL d else sSwap (nameQ id) (bytesL j9) d from by
    show (if y.v.wh then sAppend (nameQ id) (stepL m s) d else sSwap (nameQ id) (bytesL (setJ y.j m s)) d) = _
    rw [HLS.out.2, hj])
   have HLB := Lib.hid (show BL.length ≤ 1000000000 from by rw [← HLS.out.2]; exact Nat.le_trans (stL_le _ _) (by decide))
   have HSHJ := Lib.hid (show y.j.tos.length = j9.tos.length ∧ y.j.body.length = j9.body.length from by rw [← HST.out]; exact ⟨rfl, rfl⟩)
   obtain ⟨wh, hwh⟩ : ∃ z, y.v.wh = z := ⟨_, rfl⟩
   rw [hwh] at HSD HB9
   have b7 := HB9.out
   clear HB9 HST HO9 HB6 HSB hj HLS HTE HTN HNB HJW
   go_upto_if 51 with fail
   clear b7
   go_cut [12] (fun cv wx => ∃ (c : Int) (dn : Dsk) (Sx Jx : Nat → Prop), cv = .int .i64 c ∧ Hid (setD d id m s y.p = (dn, c) ∧ QX A S0 w0 wx gd dn (k + 10) Sx Jx g b n q jv ∧ Blk wx jb 55 (jobA j9 (.slice qt y.j.tos.length et) (.slice (some ⟨sb, 0, none⟩) y.j.st.length es) (.slice qv y.j.body.length ev)) ∧ Jx jb ∧ JobJ wx Jx j9 (.slice qt y.j.tos.length et) (.slice (some ⟨sb, 0, none⟩) y.j.st.length es) (.slice qv y.j.body.length ev) ∧ Mods (fun x => ¬ A x ∧ (S0 x ∨ w0.heap.size ≤ x)) w wx))
   case first =>
    cases wh with
    |true =>
     have HSD2 := Lib.hid (show setD d id m s y.p = sAppend (nameQ id) BL d from HSD.out)
     have HSS := Lib.hid (show Stays S y9 (.slice p6 BL.length c6) (BL.map u8v) from fun w9 hm => by
      have h := HL9.out
      have h9 : Own w9 y5.heap.size 5 (.slice p6 BL.length c6) (BL.map u8v) := ownsRow_mods h hm (fun x hx hs => (HX9.out.dx.lt x hs).2.1 (HJS.out x (Nat.le_trans HSZ.out (ownsRow_base h x hx)) (own_lt3 h hx)))
      exact h9.row)
     have c0 := HX9.out.qu.cells.1
     have HGS := Lib.hid HX9.out.gs.1
     have HKD := Lib.hid (Keeps.refl y9).drew
     go_wp2_with fail
     refine wp_region_noPanic ?_
     refine wp_region_held_drew (S := fun w' => Mods S y9 w') (by kernel_rfl) ((Mods.refl S y9).drew) (fun _ => ?_)
     have hHeld : Mods S y9 (y9).drew := (Mods.refl S y9).drew
     generalize World.drew y9 = xs at *
     refine tq 0 52 ?_
     refine tq 1 53 ?_
     refine tq 2 54 ?_
     refine tq 3 55 ?_ (hy := fun w' hSw => by
      have hSw : Mods S y9 w' := hSw
      have hx := hSw.cell c0 HGS.out
      clear hSw
      go_simp
      try with_reducible rfl)
     refine tq 4 56 ?_
     refine tq 6 58 ?_
     refine rd1 5 (fun K hK => ?_)
     go_simp
     refine (name_any _ _).mono ?_
     rintro e x6 ⟨rfl, hk⟩
     have HKN := Lib.hid (HKD.out.trans hk)
     have hb := hHeld.then hk
     clear hk
     go_wp2_with fail
     refine bkm hK hb ?_
     clear hK K hHeld
     have hHeld : Mods S y9 x6 := hb
     clear hb
     refine rd1 7 (fun K hK => ?_)
     go_simp
     refine (append_at HX9.out (by have := HK.out.1; omega) HKN.out HSS.out HLB.out id).mono ?_
     rintro e x8 ⟨c, rfl, hc, hq, hb⟩
     have HX8 := Lib.hid hq
     have HC8 := Lib.hid hc
     clear hq hc
     go_wp2_with fail
     refine bkm hK hb ?_
     clear hK K hHeld
     have hHeld : Mods S y9 x8 := hb
     clear hb
     refine tq 8 12 ?_
     refine wpAnyH_done (by kernel_rfl) ?_ _
     refine NoPanic.normal ?_
     go_wp2_with fail
     go_meet
     exact ⟨_, _, _, _, rfl, Lib.hid ⟨by rw [HSD2.out, HC8.out], HX8.out.more (by omega) (Nat.le_refl _), HBJ.out.mods hHeld (fun hs => (HX9.out.dx.lt jb hs).2.1 HJB9.out), HJB9.out, HJX.out.mods hHeld (fun x hx => (HX9.out.dx.lt x hx).2.1), (Mods.of_keeps HKW.out).trans (hHeld.mono HFR.out) (fun x hx _ => hx)⟩⟩
    |false =>
     have HSD2 := Lib.hid (show setD d id m s y.p = sSwap (nameQ id) (bytesL j9) d from HSD.out)
     have hgl := good_len HGJ.out.1
     have HBY := Lib.hid (Env.bytes_any y9 j9 _ _ _ HJX.out.at_ (show Short j9 from good_short HGJ.out.1))
     unfold RetSI at HBY
     have HBL := Lib.hid (show (bytesL j9).length ≤ 1000000000 from Nat.le_trans bytesL_le (by decide))
     generalize bytesL j9 = BB at *
     clear hgl
     go_wp2_with (refine wpList_ld rfl jobM HBJ.out _ rfl rfl ?_)
     refine HBY.out.mono ?_
     rintro e ya ⟨va, rfl, hoa, hka⟩
     obtain ⟨pa, ca, rfl, -, -⟩ := ownsRow_form hoa
     rw [List.length_map] at hoa ⊢
     have HXA := Lib.hid (HX9.out.jobs hka)
     have HSS := Lib.hid (show Stays S ya (.slice pa BB.length ca) (BB.map u8v) from fun w9 hm => by
      have h9 : Own w9 y9.heap.size 5 (.slice pa BB.length ca) (BB.map u8v) := ownsRow_mods (w := ya) (show Own ya y9.heap.size 5 (.slice pa BB.length ca) (BB.map u8v) from hoa) hm (fun x hx hs => (HXA.out.dx.lt x hs).2.1 (.inr ⟨ownsRow_base hoa x hx, own_lt3 hoa hx⟩))
      exact h9.row)
     have HBA := Lib.hid (HBJ.out.keeps hka)
     have HJA := Lib.hid ((HJX.out.keeps hka).wide (J' := MoreJ J9 y9 ya) (fun x hx => .inl hx))
     have HKA := Lib.hid (HKW.out.trans hka)
     have c0 := HXA.out.qu.cells.1
     have HGS := Lib.hid HXA.out.gs.1
     have HKD := Lib.hid (Keeps.refl ya).drew
     clear hka hoa HBY
     go_wp2_with fail
     refine wp_region_noPanic ?_
     refine wp_region_held_drew (S := fun w' => Mods S ya w') (by kernel_rfl) ((Mods.refl S ya).drew) (fun _ => ?_)
     have hHeld : Mods S ya (ya).drew := (Mods.refl S ya).drew
     generalize World.drew ya = xs at *
     refine tq 0 65 ?_
     refine tq 1 66 ?_
     refine tq 2 67 ?_
     refine tq 3 68 ?_ (hy := fun w' hSw => by
      have hSw : Mods S ya w' := hSw
      have hx := hSw.cell c0 HGS.out
      clear hSw
      go_simp
      try with_reducible rfl)
     refine tq 4 69 ?_
     refine tq 6 71 ?_
     refine rd1 5 (fun K hK => ?_)
     go_simp
     refine (name_any _ _).mono ?_
     rintro e x6 ⟨rfl, hk⟩
     have HKN := Lib.hid (HKD.out.trans hk)
     have hb := hHeld.then hk
     clear hk
     go_wp2_with fail
     refine bkm hK hb ?_
     clear hK K hHeld
     have hHeld : Mods S ya x6 := hb
     clear hb
     refine rd1 7 (fun K hK => ?_)
     go_simp
     refine (swap_at HXA.out (by have := HK.out.1; omega) HKN.out HSS.out HBL.out id).mono ?_
     rintro e x8 ⟨c, rfl, hc, hq, hb⟩
     have HX8 := Lib.hid hq
     have HC8 := Lib.hid hc
     clear hq hc
     go_wp2_with fail
     refine bkm hK hb ?_
     clear hK K hHeld
     have hHeld : Mods S ya x8 := hb
     clear hb
     refine tq 8 12 ?_
     refine wpAnyH_done (by kernel_rfl) ?_ _
     refine NoPanic.normal ?_
     go_wp2_with fail
     go_meet
     exact ⟨_, _, _, _, rfl, Lib.hid ⟨by rw [HSD2.out, HC8.out], HX8.out.more (by omega) (Nat.le_refl _), HBA.out.mods hHeld (fun hs => (HXA.out.dx.lt jb hs).2.1 (.inl HJB9.out)), .inl HJB9.out, HJA.out.mods hHeld (fun x hx => (HXA.out.dx.lt x hx).2.1), (Mods.of_keeps HKA.out).trans (hHeld.mono HFR.out) (fun x hx _ => hx)⟩⟩
   case rest =>
   obtain ⟨c, dn, Sx, Jx, rfl, HH⟩ := hcut
   rw [HH.out.1] at HQS
   by_cases hc : c = 0
   ·subst hc
    rw [if_neg (fun h => h rfl)] at HQS
    obtain ⟨e, hke⟩ : ∃ z : KpX, (⟨j9, ⟨j9.id, j9.arr, j9.fl, j9.fd, ⟨qt, y.j.tos.length, et⟩, ⟨some ⟨sb, 0, none⟩, y.j.st.length, es⟩, ⟨qv, y.j.body.length, ev⟩, true⟩⟩ : KpX) = z := ⟨_, rfl⟩
    have HE := Lib.hid (show KpIs wc Jx e from by rw [← hke]; exact ⟨rfl, rfl, rfl, rfl, HH.out.2.2.2.2.1⟩)
    have HEV := Lib.hid (show kpV e.v = .agg #[.int .i64 j9.id, .int .i64 j9.arr, .string (bstr j9.fl), .string (bstr j9.fd), .slice qt y.j.tos.length et, .slice (some ⟨sb, 0, none⟩) y.j.st.length es, .slice qv y.j.body.length ev, .bool true] from by rw [← hke]; rfl)
    have HEP := Lib.hid (show e.p = (j9, true) from by rw [← hke]; rfl)
    clear hke
    have HXC := Lib.hid HH.out.2.1
    have HBC := Lib.hid HH.out.2.2.1
    have HMC := Lib.hid HH.out.2.2.2.2.2
    have HJB := Lib.hid HH.out.2.2.2.1
    have HJC := Lib.hid HH.out.2.2.2.2.1
    have HNN := Lib.hid (show n < 1000000 from by have := HK.out.2.1; omega)
    have HWF := Lib.hid HK.out.2.2
    have HGB := Lib.hid (show g ≠ b ∧ jb ≠ b ∧ jb ≠ g from ⟨HXC.out.qu.gb, fun e => HXC.out.qu.nb (by rw [← e]; exact HJB.out), fun e => HXC.out.qu.ng (by rw [← e]; exact HJB.out)⟩)
    have HGL := Lib.hid (show ∀ x, x = g ∨ x = b → ¬ A x ∧ (S0 x ∨ w0.heap.size ≤ x) from fun x hx => HXC.out.freeG hx)
    have c2 := HXC.out.qu.cells.2.2.1
    have HQ8 := Lib.hid (HXC.out.qu.keeps (Keeps.refl wc).drew)
    have HE8 := Lib.hid (HE.out.mods (Mods.of_keeps (S := fun _ => False) (Keeps.refl wc).drew) (fun _ h => h.elim))
    clear HH HX9 HBJ HJX HKW HJS HL9 HY6
    go_wp2_with fail
    refine wp_region_noPanic ?_
    refine wp_region_held_drew (S := fun w' => Mods (· = b) wc w') (by kernel_rfl) ((Mods.refl (· = b) wc).drew) (fun _ => ?_)
    have hHeld : Mods (· = b) wc (wc).drew := (Mods.refl (· = b) wc).drew
    generalize World.drew wc = xs at *
    refine tq 0 76 ?_
    refine tq 1 77 ?_
    refine tq 2 78 ?_
    refine tq 3 79 ?_ (hy := fun w' hSw => by
     have hSw : Mods (· = b) wc w' := hSw
     have hx := hSw.cell c2 (fun e => HGB.out.1 e)
     clear hSw
     go_simp
     try with_reducible rfl)
    refine tq 4 80 ?_
    refine wpAnyH_take (i := 5) (by rfl) (by kernel_rfl) (by kernel_rfl) (by kernel_rfl) (by intro _ _ _ h; exact h) (yieldsIf_ld (by kernel_rfl) jobM (fun w' hS => HBC.out.mods hS HGB.out.2.1) _ rfl rfl) (by assumption) ?rest20
    change wpAnyH _ _ _ _ _ _ _ (Act.put _ (some 81) _) _
    try simp only [Act.put, List.setIfInBounds_toArray, List.set_cons_zero, List.set_cons_succ]
    refine tq 6 82 ?_
    refine rd1 7 (fun K hK => ?_)
    obtain ⟨xm, hup, hqm, hmm⟩ := HQ8.out.put HNN.out HWF.out HE8.out
    rw [HEV.out] at hup
    go_simp
    have hb := hHeld.trans hmm (fun y hy _ => hy)
    have HQM := Lib.hid hqm
    clear hup hqm hmm
    refine bkm hK hb ?_
    clear hK K hHeld
    have hHeld : Mods (· = b) wc xm := hb
    clear hb
    refine wpAnyH_done (by kernel_rfl) ?_ _
    refine NoPanic.normal ?_
    have HXM := Lib.hid (HXC.out.own HQM.out hHeld (fun y hy => .inr hy))
    have HMM := Lib.hid (HMC.out.trans (hHeld.mono (fun y hy => HGL.out y (.inr hy))) (fun y hy _ => hy))
    have HBM := Lib.hid (HBC.out.mods hHeld (fun e => HGB.out.2.1 e))
    have HJM := Lib.hid (HJC.out.mods hHeld (fun y hy => by rw [hy]; exact HXC.out.qu.nb))
    have HDN := Lib.hid (Env.done_any xm j9 _ _ _ HJM.out.at_ (by rw [HGJ.out.2.2]; have := (good_len HGJ.out.1); have h2 := HGJ.out.2.2; omega))
    clear HQM HQ8 HE8 HE HEV c2 HXC HMC HBC HJC hHeld
    go_wp2_with (refine wpList_ld rfl jobM HBM.out _ rfl rfl ?_)
    refine HDN.out.mono ?_
    rintro e9 y1 ⟨rfl, hk1⟩
    have HX1 := Lib.hid (HXM.out.keeps hk1)
    have HM1 := Lib.hid (HMM.out.then hk1)
    rw [HEP.out] at HX1
    clear hk1 HDN HXM HMM HBM HJM HEP
    cases hdb : doneB j9 with
    |false =>
     have HR := Lib.hid (show qSet q d id m s = ((⟨q.next, q.last, putL q.jobs id (j9, true)⟩, dn), 0) from by rw [HQS.out, if_neg (by rw [hdb]; simp)])
     clear hdb
     go_wp2_with fail
     go_ret
     rw [HR.out]
     exact ⟨rfl, ⟨_, _, _, _, HX1.out.more (k' := k + 13) (m := n + 1) (by omega) (Nat.le_refl _)⟩, HM1.out⟩
    |true =>
     rw [if_pos hdb] at HQS
     have c2 := HX1.out.qu.cells.2.2.1
     obtain ⟨y2, hdl, hq2, hm2⟩ := HX1.out.qu.drop HWF.out 0
     have HX2 := Lib.hid (HX1.out.own hq2 hm2 (fun y hy => .inr hy))
     have HM2 := Lib.hid (HM1.out.trans (hm2.mono (fun y hy => HGL.out y (.inr hy))) (fun y hy _ => hy))
     clear hq2 hm2 hdb
     go_upto_region 20 with fail
     clear hdl c2
     have c3 := HX2.out.qu.cells.2.2.2
     by_cases hil : id < q.last
     ·have hil1 : decide (id < q.last) = true := decide_eq_true hil
      rw [if_pos hil] at HQS
      have c0 := HX2.out.qu.cells.1
      have HGS := Lib.hid HX2.out.gs.1
      have HKD := Lib.hid (Keeps.refl y2).drew
      clear hil HX1 HM1
      obtain ⟨S2, hS2⟩ : ∃ z, Sx = z := ⟨_, rfl⟩
      rw [hS2] at HX2 HGS
      clear hS2
      go_wp2_with fail
      refine wp_region_noPanic ?_
      refine wp_region_held_drew (S := fun w' => Mods S2 y2 w') (by kernel_rfl) ((Mods.refl S2 y2).drew) (fun _ => ?_)
      have hHeld : Mods S2 y2 (y2).drew := (Mods.refl S2 y2).drew
      generalize World.drew y2 = xs at *
      refine tq 0 96 ?_
      refine tq 1 97 ?_
      refine tq 2 98 ?_
      refine tq 3 99 ?_ (hy := fun w' hSw => by
       have hSw : Mods S2 y2 w' := hSw
       have hx := hSw.cell c0 HGS.out
       clear hSw
       go_simp
       try with_reducible rfl)
      refine tq 4 100 ?_
      refine rd1 5 (fun K hK => ?_)
      go_simp
      refine (name_any _ _).mono ?_
      rintro e z8 ⟨rfl, hk⟩
      have HKN := Lib.hid (HKD.out.trans hk)
      have hb := hHeld.then hk
      clear hk
      go_wp2_with fail
      refine bkm hK hb ?_
      clear hK K hHeld
      have hHeld : Mods S2 y2 z8 := hb
      clear hb
      refine rd1 6 (fun K hK => ?_)
      go_simp
      refine (drop_at HX2.out (by have := HK.out.1; omega) HKN.out (x := nameQ id) (by have := nameQ_le id; omega)).mono ?_
      rintro e z9 ⟨cd, rfl, hcd, hqd, hb⟩
      have HXZ := Lib.hid hqd
      clear hqd hcd
      go_wp2_with fail
      refine bkm hK hb ?_
      clear hK K hHeld
      have hHeld : Mods S2 y2 z9 := hb
      clear hb
      refine wpAnyH_done (by kernel_rfl) ?_ _
      refine NoPanic.normal ?_
      have HMZ := Lib.hid (HM2.out.trans (hHeld.mono (fun y hy => HX2.out.free hy)) (fun y hy _ => hy))
      go_wp2_with fail
      go_ret
      rw [HQS.out]
      exact ⟨rfl, ⟨_, _, _, _, HXZ.out.more (k' := k + 13) (m := n + 1) (by omega) (Nat.le_refl _)⟩, HMZ.out⟩
     ·have hil1 : decide (id < q.last) = false := decide_eq_false hil
      rw [if_neg hil] at HQS
      clear hil HX1 HM1
      go_wp2_with fail
      go_ret
      rw [HQS.out]
      exact ⟨rfl, ⟨_, _, _, _, HX2.out.more (k' := k + 13) (m := n + 1) (by omega) (Nat.le_refl _)⟩, HM2.out⟩
   ·have e1 : (c != 0) = true := by simp [hc]
    have HR := Lib.hid (show qSet q d id m s = ((q, dn), c) from by rw [HQS.out, if_pos hc])
    clear hc
    go_wp2_with fail
    go_ret
    rw [HR.out]
    exact ⟨rfl, ⟨_, _, _, _, HH.out.2.1.more (k' := k + 13) (m := n + 1) (by omega) (by omega)⟩, HH.out.2.2.2.2.2⟩
  ·have e1 : (eS != 0) = true := by simp [he]
   have HR := Lib.hid (show qSet q d id t s = ((q, d), eS) from by rw [HQS.out, if_pos he])
   clear he
   go_wp2_with fail
   go_ret
   rw [HR.out]
   exact ⟨rfl, ⟨_, _, _, _, (HX0.out.keeps HKX.out).more (k' := k + 13) (m := n + 1) (by omega) (by omega)⟩, Mods.of_keeps HKX.out⟩
end
end Que
end Go.Proofs.YtcleakjjefmmbaaGreat
