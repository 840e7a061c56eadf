/- Several texts in one: EnGood, EnRight. -/
import Derived.Test.YtcleakjjefmmbaaGreatK28
import Derived.Test.YtcleakjjefmmbaaGreatK37
import Derived.Test.YtcleakjjefmmbaaGreatK01
import Derived.Test.YtcleakjjefmmbaaGreatK02
import Derived.Shelf.Abstract
/- envel.goodEnv, envel.Good. -/
namespace Go.Proofs.YtcleakjjefmmbaaGreat
open Go.RowKit
namespace Env
open Adr (good_any goodB)
open Mbx (Reads intElem intElem_inv intD upd)
open Go.Maps
theorem intKeyed' : Keyed Tryz.prog 3 := int_keyed Tryz.underlying3
theorem zeroInt_run' (w : World) : (zeroValue 3).run Tryz.prog w = .ok (.int .i64 0) w := by kernel_rfl
/-- a map from numbers to numbers -/
def MMap (w : World) (b n : Nat) (f : Int → Option Int) : Prop := ∃ D, w.ownsMap Tryz.prog 3 intElem b n D ∧ Reads D f intD
theorem MMap.keeps {w w' : World} {b n : Nat} {f : Int → Option Int} (h : MMap w b n f) (k : Keeps w w') : MMap w' b n f := by
 obtain ⟨D, ⟨es, clock, hb, r⟩, h2⟩ := h
 exact ⟨D, ⟨es, clock, by rw [k.block (Array.getElem?_eq_some_iff.1 hb).1]; exact hb, r⟩, h2⟩
theorem MMap.lt {w : World} {b n : Nat} {f : Int → Option Int} (h : MMap w b n f) : b < w.heap.size := let ⟨_, h1, _⟩ := h; h1.lt
theorem MMap.look {w : World} {b n : Nat} {f : Int → Option Int} (h : MMap w b n f) {x : Int} (hx : (Lit.int .i64 x).wf = true) :
  (Instr.lookup 282 (.map (some b)) (.int .i64 x) false).run Tryz.prog w = .ok (.int .i64 ((f x).getD 0)) w := by
 obtain ⟨D, h1, h2⟩ := h
 obtain ⟨v, ps, hrun, hv⟩ := h1.lookup intKeyed' Tryz.underlying282 (zeroInt_run' w) (zd := intD 0) (zp := []) rfl (keyOf_int_mk Tryz.underlying3 hx)
 rw [h2.at_] at hv
 rw [hrun, intElem_inv hv]
theorem MMap.put {w : World} {b n : Nat} {f : Int → Option Int} (h : MMap w b n f) (hn : n < 1000000) {x : Int} (y : Int) (hx : (Lit.int .i64 x).wf = true) : ∃ w', (Instr.mapUpdate 282 (.map (some b)) (.int .i64 x) (.int .i64 y)).run Tryz.prog w = .ok () w' ∧ MMap w' b (n + 1) (upd f x y) ∧ Mods (· = b) w w' := by
 obtain ⟨D, h1, h2⟩ := h
 obtain ⟨w', hrun, ho, ht⟩ := h1.store intKeyed' Tryz.underlying282 (by unfold maxLen; omega) (val := .int .i64 y) (d := intD y) (ps := []) (keyOf_int_mk Tryz.underlying3 hx) rfl
 exact ⟨w', hrun, ⟨_, ho, h2.put x y⟩, (Mods.refl (· = b) w).grown ht.grown (fun k hk _ => by cases hk; rfl)⟩
/-- how often a user was seen -/
def Cnt (f : Int → Option Int) (p : List Int) : Prop := ∀ x, (f x).getD 0 = if x ∈ p then 1 else 0
theorem Cnt.put {f : Int → Option Int} {p : List Int} (h : Cnt f p) {u : Int} (hu : u ∉ p) : Cnt (upd f u 1) (u :: p) := by
 intro x
 by_cases hx : x = u
 ·subst hx
  simp [Mbx.upd_same]
 ·rw [Mbx.upd_other _ _ hx, h x]
  simp [hx]
set_option maxRecDepth 100000 in
set_option maxHeartbeats 2000000 in
theorem goodEnv_any (w : World) (j : JobP) (vt vs vb : Value) (h : JobAt w j vt vs vb) (hsh : Short j) : Calls Tryz.prog 178 #[.agg (jobA j vt vs vb)] w fun e w' => e = .returned (.bool (envB j)) ∧ Keeps w w' := by
 obtain ⟨pt, ct, rfl, hct1, hct2⟩ := h.tos.form
 have HJ := Lib.hid h
 have HB := Lib.hid (Blk.new w 55 (jobA j (.slice pt j.tos.length ct) vs vb) rfl)
 have HK := Lib.hid ((Keeps.refl w).alloc (.cells (jobA j (.slice pt j.tos.length ct) vs vb) 55))
 have HE := Lib.hid (show envB j = (inB j.id 1 1099511627776 && inB j.arr 0 4503599627370496 && inB j.tos.length 1 20 && fromB j && tgsB [] j.tos) from rfl)
 have H1 := Lib.hid (within_any j.id 1 1099511627776)
 have H2 := Lib.hid (within_any j.arr 0 4503599627370496)
 have H3 := Lib.hid (within_any (j.tos.length : Int) 1 20)
 have HS := Lib.hid hsh
 clear h hsh
 generalize envB j = r at *
 generalize inB j.id 1 1099511627776 = b1 at *
 generalize inB j.arr 0 4503599627370496 = b2 at *
 generalize hb3 : inB j.tos.length 1 20 = b3 at *
 have HL := Lib.hid hb3
 clear hb3
 go_enter Tryz.func178, Tryz.ntmps178
 go_wp2_with fail
 refine (H1.out _).mono ?_
 rintro e w1 ⟨rfl, rfl⟩
 generalize w.alloc (.cells (jobA j (.slice pt j.tos.length ct) vs vb) 55) = w1 at *
 generalize w.heap.size = g at *
 have c1 : w1.cell? ⟨g, 1, none⟩ = some (.int .i64 j.arr) := by rw [HB.out.cell]; rfl
 have c2 : w1.cell? ⟨g, 2, none⟩ = some (.string (bstr j.fl)) := by rw [HB.out.cell]; rfl
 have c3 : w1.cell? ⟨g, 3, none⟩ = some (.string (bstr j.fd)) := by rw [HB.out.cell]; rfl
 have c4 : w1.cell? ⟨g, 4, none⟩ = some (.slice pt j.tos.length ct) := by rw [HB.out.cell]; rfl
 cases b1 with
 |false =>
  go_wp2_with fail
  go_ret
  exact ⟨by rw [HE.out]; rfl, HK.out⟩
 |true =>
 go_wp2_with fail
 refine (H2.out _).mono ?_
 rintro e w2 ⟨rfl, rfl⟩
 cases b2 with
 |false =>
  go_wp2_with fail
  go_ret
  exact ⟨by rw [HE.out]; rfl, HK.out⟩
 |true =>
 go_wp2_with fail
 refine (H3.out _).mono ?_
 rintro e w2 ⟨rfl, rfl⟩
 cases b3 with
 |false =>
  go_wp2_with fail
  go_ret
  exact ⟨by rw [HE.out]; rfl, HK.out⟩
 |true =>
 go_upto_region 3 with fail
 obtain ⟨nb, hnb⟩ : ∃ nb, (!fromB j) = nb := ⟨_, rfl⟩
 have HNB := Lib.hid hnb
 clear hnb
 go_cut [32] (fun t wx => t = .bool nb ∧ Keeps w1 wx)
 case first =>
  have HG := Lib.hid (good_any w1 j.fl j.fd (by have := HS.out.1; omega) (by have := HS.out.2.1; omega))
  have HF := Lib.hid (show fromB j = ((decide (j.fl = []) && decide (j.fd = [])) || goodB j.fl j.fd) from rfl)
  generalize fromB j = fb at *
  generalize goodB j.fl j.fd = gb at *
  by_cases h1 : j.fl = []
  ·have e0 : (bstr j.fl).toList = [] := by rw [bstr_toList]; exact h1
   by_cases h2 : j.fd = []
   ·have e1 : (bstr j.fd).toList = [] := by rw [bstr_toList]; exact h2
    have HX := Lib.hid (show fb = true from by rw [HF.out, h1, h2]; rfl)
    clear h1 h2
    go_wp2_with fail
    go_meet
    exact ⟨by rw [← HNB.out, HX.out]; rfl, Keeps.refl _⟩
   ·have e1 : ¬ (bstr j.fd).toList = [] := by rw [bstr_toList]; exact h2
    have HX := Lib.hid (show fb = gb from by rw [HF.out]; simp [h2])
    clear h1 h2
    go_wp2_with fail
    refine HG.out.mono ?_
    rintro e w2 ⟨rfl, hk⟩
    go_wp2_with fail
    go_meet
    exact ⟨by rw [← HNB.out, HX.out], hk⟩
  ·have e0 : ¬ (bstr j.fl).toList = [] := by rw [bstr_toList]; exact h1
   have HX := Lib.hid (show fb = gb from by rw [HF.out]; simp [h1])
   clear h1
   go_wp2_with fail
   refine HG.out.mono ?_
   rintro e w2 ⟨rfl, hk⟩
   go_wp2_with fail
   go_meet
   exact ⟨by rw [← HNB.out, HX.out], hk⟩
 case rest =>
 obtain ⟨rfl, hkc⟩ := hcut
 obtain ⟨w2, rfl⟩ : ∃ wz : World, wz = wc := ⟨_, rfl⟩
 have HB2 := Lib.hid (HB.out.keeps hkc)
 have HK2 := Lib.hid (HK.out.trans hkc)
 clear hkc c1 c2 c3 c4 H1 H2 H3
 have HFB := Lib.hid (show fromB j = !nb from by rw [← HNB.out]; simp)
 rw [HFB.out] at HE
 clear HFB HNB
 cases nb with
 |true =>
  go_wp2_with fail
  go_ret
  exact ⟨by rw [HE.out]; rfl, HK2.out⟩
 |false =>
 have c4 : (w2.alloc (.map #[] 0)).cell? ⟨g, 4, none⟩ = some (.slice pt j.tos.length ct) := by rw [(HB2.out.alloc (.map #[] 0)).cell]; rfl
 have hmk : ∀ w, (Instr.makeMap 282 none).run Tryz.prog w = .ok (.map (some w.heap.size)) (w.alloc (.map #[] 0)) := fun w => run_makeMap _ w
 have HM0 := Lib.hid (show MMap (w2.alloc (.map #[] 0)) w2.heap.size 0 (fun _ => none) from ⟨_, World.ownsMap_made w2 Tryz.prog _ _, Mbx.reads_new _⟩)
 have HK3 := Lib.hid (HK2.out.alloc (.map #[] 0))
 have hbw : w.heap.size ≤ w2.heap.size := HK2.out.size
 have HJ3 := Lib.hid (HJ.out.keeps HK3.out)
 have hl20 : j.tos.length ≤ 20 := by have := HL.out; simp [inB] at this; omega
 have HE2 := Lib.hid (show r = tgsB [] j.tos from by rw [HE.out]; rfl)
 clear HE HL HB HB2 HK HK2
 go_wp2_with fail
 clear c4 hmk
 generalize w2.alloc (.map #[] 0) = w3 at *
 generalize w2.heap.size = mb at *
 go_loopw [37] (fun iv wr => ∃ (i : Nat) (p : List Int) (f : Int → Option Int), iv = .int .i64 (i : Int) ∧ i ≤ j.tos.length ∧ Hid (r = tgsB p (j.tos.drop i)) ∧ Hid (Cnt f p) ∧ Hid (MMap wr mb i f) ∧ Hid (Keeps w wr)) (fun iv _ => j.tos.length - (intOf iv).toNat)
 case atStart => exact ⟨0, [], _, rfl, Nat.zero_le _, HE2, Lib.hid (fun x => rfl), HM0, HK3⟩
 case round =>
  obtain ⟨i, p, f, rfl, hi, HR, HC, HM, HK⟩ := hrel
  by_cases hlt : i < j.tos.length
  ·have hw : IntKind.i64.wrap ((i : Int) + 1) = (i : Int) + 1 := IntWalk.i64_in _ (by omega)
   obtain ⟨b, off, cap, hv, hrg⟩ := rowS_at tgC_len (HJ.out.keeps HK.out).tos hlt
   simp only [Value.slice.injEq] at hv
   obtain ⟨rfl, -, rfl⟩ := hv
   have HRG := Lib.hid hrg
   have HSH := Lib.hid (HS.out.2.2.1 _ (List.getElem_mem hlt))
   have HRN := Lib.hid (show r = (!decide (j.tos[i].u ∈ p) && tgB j.tos[i] && tgsB (j.tos[i].u :: p) (j.tos.drop (i + 1))) from by
    rw [HR.out, List.drop_eq_getElem_cons hlt]
    rfl)
   clear hrg HR
   generalize j.tos[i] = t at *
   obtain ⟨u, tl, td⟩ := t
   have hu := HSH.out.2.2
   have HRG := Lib.hid (show wr.rangeAt b (off + i * 3) [.int .i64 u, .string (bstr tl), .string (bstr td)] from HRG.out)
   go_upto_region 9 with (refine wpList_ldR rfl tgM HRG.out _ rfl rfl ?_)
   generalize hW : World.alloc wr _ = y1
   have HKy := Lib.hid (show Keeps wr y1 from by rw [← hW]; exact (Keeps.refl _).alloc _)
   have HFy := Lib.hid (show Blk y1 wr.heap.size 75 #[.int .i64 u, .string (bstr tl), .string (bstr td)] from by rw [← hW]; exact Blk.new _ _ _ rfl)
   clear hW HRG
   have HMy := Lib.hid (HM.out.keeps HKy.out)
   have HKW := Lib.hid (HK.out.trans HKy.out)
   obtain ⟨q, hq⟩ : ∃ q, q = wr.heap.size := ⟨_, rfl⟩
   have hqm : mb ≠ q := by have := HM.out.lt; omega
   rw [← hq] at HFy ⊢
   clear hq HM HK HKy
   have q0 : y1.cell? ⟨q, 0, none⟩ = some (.int .i64 u) := by rw [HFy.out.cell]; rfl
   have hl1 := HMy.out.look hu
   have hcu := HC.out u
   by_cases hp : u ∈ p
   ·rw [if_pos hp] at hcu
    rw [hcu] at hl1
    obtain ⟨y2, hput, hM2, hMd⟩ := HMy.out.put (by omega) 2 hu
    have hl2 : (Instr.lookup 282 (.map (some mb)) (.int .i64 u) false).run Tryz.prog y2 = .ok (.int .i64 2) y2 := by have := hM2.look hu; rw [Mbx.upd_same] at this; exact this
    have q0' : y2.cell? ⟨q, 0, none⟩ = some (.int .i64 u) := hMd.cell q0 (fun e => hqm e.symm)
    have HK2 := Lib.hid (hMd.keeps HKW.out (fun x hx => by rw [hx]; exact hbw))
    have HX := Lib.hid (show r = false from by rw [HRN.out]; simp [hp])
    clear hMd hM2 hp hcu
    go_wp2_with fail
    go_ret
    exact ⟨by rw [HX.out]; rfl, HK2.out⟩
   ·have HC2 := Lib.hid (HC.out.put hp)
    rw [if_neg hp] at hcu
    rw [hcu] at hl1
    obtain ⟨y2, hput, hM2, hMd⟩ := HMy.out.put (by omega) 1 hu
    have hl2 : (Instr.lookup 282 (.map (some mb)) (.int .i64 u) false).run Tryz.prog y2 = .ok (.int .i64 1) y2 := by have := hM2.look hu; rw [Mbx.upd_same] at this; exact this
    have q0' : y2.cell? ⟨q, 0, none⟩ = some (.int .i64 u) := hMd.cell q0 (fun e => hqm e.symm)
    have q1' : y2.cell? ⟨q, 1, none⟩ = some (.string (bstr tl)) := hMd.cell (by rw [HFy.out.cell]; rfl) (fun e => hqm e.symm)
    have q2' : y2.cell? ⟨q, 2, none⟩ = some (.string (bstr td)) := hMd.cell (by rw [HFy.out.cell]; rfl) (fun e => hqm e.symm)
    have HM2 := Lib.hid hM2
    have HK2 := Lib.hid (hMd.keeps HKW.out (fun x hx => by rw [hx]; exact hbw))
    have HX := Lib.hid (show r = (inB u 1 999 && goodB tl td && tgsB (u :: p) (j.tos.drop (i + 1))) from by rw [HRN.out]; simp [hp, tgB])
    have HW := Lib.hid (within_any u 1 999)
    have HG := Lib.hid (good_any y2 tl td (by have := HSH.out.1; simp only at this; omega) (by have := HSH.out.2.1; simp only at this; omega))
    clear hMd hM2 hp hcu HRN
    generalize inB u 1 999 = b1 at *
    generalize goodB tl td = b2 at *
    go_wp2_with fail
    refine (HW.out _).mono ?_
    rintro e z1 ⟨rfl, rfl⟩
    cases b1 with
    |false =>
     go_wp2_with fail
     go_ret
     exact ⟨by rw [HX.out]; rfl, HK2.out⟩
    |true =>
    go_wp2_with fail
    refine HG.out.mono ?_
    rintro e z2 ⟨rfl, hk⟩
    cases b2 with
    |false =>
     go_wp2_with fail
     go_ret
     exact ⟨by rw [HX.out]; rfl, HK2.out.trans hk⟩
    |true =>
    go_wp2_with fail
    go_roundw
    case rel => exact ⟨i + 1, u :: p, _, by simp, by omega, Lib.hid (by rw [HX.out]; rfl), HC2, Lib.hid (HM2.out.keeps hk), Lib.hid (HK2.out.trans hk)⟩
    case measure =>
     simp only [intOf]
     omega
  ·have HX := Lib.hid (show r = true from by
    rw [HR.out, List.drop_eq_nil_of_le (by omega)]
    rfl)
   go_wp2_with fail
   go_ret
   exact ⟨by rw [HX.out]; rfl, HK.out⟩
end Env
end Go.Proofs.YtcleakjjefmmbaaGreat

/- slices.ContainsFunc over states; envel.Good, envel.Done; ref15.env. -/
namespace Go.Proofs.YtcleakjjefmmbaaGreat
open Go.RowKit
namespace Env
open Adr (goodB)
theorem any_not {α : Type} {p : α → Bool} {l : List α} {i : Nat} (h : i < l.length) (ha : (l.take i).any p = false) (hc : p l[i] = false) : (l.take (i + 1)).any p = false := by
 rw [List.take_succ_eq_append_getElem h, List.any_append, ha]
 simp [hc]
set_option maxRecDepth 100000 in
theorem index_any (n : Nat) (p : StP → Bool) (hE : ∀ (x : Value) (w : World), (callFunc n #[x]).run Tryz.prog w = .ok (.enter n #[x]) w) (hC : ∀ x w, Calls Tryz.prog n #[.agg (stA x)] w fun e w' => e = .returned (.bool (p x)) ∧ Keeps w w')
  (w : World) (vs : Value) (st : List StP) (hs : RowS w 4 vs st.length (st.flatMap stC)) (hl : st.length ≤ 1000000) : Calls Tryz.prog 161 #[vs, .func (.func n) #[] #[]] w fun e w' => ∃ k : Int, e = .returned (.int .i64 k) ∧ decide (0 ≤ k) = st.any p ∧ Keeps w w' := by
 obtain ⟨pt, ct, rfl, hct1, hct2⟩ := hs.form
 have HS := Lib.hid hs
 have HC := Lib.hid hC
 clear hs hC
 go_enter Tryz.func161, Tryz.ntmps161
 go_wp2_with fail
 go_loopw [8] (fun iv wr => ∃ i : Nat, iv = .int .i64 (i : Int) ∧ i ≤ st.length ∧ Hid ((st.take i).any p = false) ∧ Hid (Keeps w wr)) (fun iv _ => st.length - (intOf iv).toNat)
 case atStart => exact ⟨0, rfl, Nat.zero_le _, Lib.hid rfl, Lib.hid (Keeps.refl _)⟩
 case round =>
  obtain ⟨i, rfl, hi, HA, HK⟩ := hrel
  by_cases hlt : i < st.length
  ·have hw : IntKind.i64.wrap ((i : Int) + 1) = (i : Int) + 1 := IntWalk.i64_in _ (by omega)
   obtain ⟨b, off, cap, hv, hrg⟩ := rowS_at stC_len (HS.out.keeps HK.out) hlt
   simp only [Value.slice.injEq] at hv
   obtain ⟨rfl, -, rfl⟩ := hv
   have HN := Lib.hid (@any_not _ p st i hlt HA.out)
   have HM := Lib.hid (List.getElem_mem hlt)
   have HCC := Lib.hid (HC.out st[i] wr)
   generalize st[i] = x at *
   obtain ⟨s, t, d, c⟩ := x
   have HRG := Lib.hid (show wr.rangeAt b (off + i * 4) [.int .i64 s, .int .i64 t, .int .i64 d, .int .i64 c] from hrg)
   unfold stA at HCC
   have HX := Lib.hid (fun h : p ⟨s, t, d, c⟩ = true => show st.any p = true from List.any_eq_true.2 ⟨_, HM.out, h⟩)
   generalize p ⟨s, t, d, c⟩ = r at *
   clear hrg
   go_wp2_with (refine wpList_ldR rfl stM HRG.out _ rfl rfl ?_)
   refine HCC.out.mono ?_
   rintro e z1 ⟨rfl, hk⟩
   cases r with
   |true =>
    go_wp2_with fail
    go_ret
    exact ⟨i, rfl, by rw [HX.out (by simp)]; simp, HK.out.trans hk⟩
   |false =>
    go_wp2_with fail
    go_roundw
    case rel => exact ⟨i + 1, by simp, by omega, Lib.hid (HN.out (by simp)), Lib.hid (HK.out.trans hk)⟩
    case measure =>
     simp only [intOf]
     omega
  ·have HX := Lib.hid (show st.any p = false from by
    have := HA.out
    rwa [List.take_of_length_le (by omega)] at this)
   go_wp2_with fail
   go_ret
   exact ⟨-1, rfl, by rw [HX.out]; simp, HK.out⟩
theorem contains_any (n : Nat) (p : StP → Bool) (hE : ∀ (x : Value) (w : World), (callFunc n #[x]).run Tryz.prog w = .ok (.enter n #[x]) w) (hC : ∀ x w, Calls Tryz.prog n #[.agg (stA x)] w fun e w' => e = .returned (.bool (p x)) ∧ Keeps w w')
  (w : World) (vs : Value) (st : List StP) (hs : RowS w 4 vs st.length (st.flatMap stC)) (hl : st.length ≤ 1000000) : Calls Tryz.prog 89 #[vs, .func (.func n) #[] #[]] w fun e w' => e = .returned (.bool (st.any p)) ∧ Keeps w w' := by
 have HI := Lib.hid (index_any n p hE hC w vs st hs hl)
 clear hE hC hs
 generalize st.any p = r at *
 go_enter Tryz.func89, Tryz.ntmps89
 go_wp2_with fail
 refine HI.out.mono ?_
 rintro e z1 ⟨k, rfl, hr, hk⟩
 have HR := Lib.hid hr
 clear hr
 go_wp2_with fail
 go_ret
 exact ⟨by rw [← HR.out]; rfl, hk⟩
theorem good1_any (x : StP) (w : World) : Calls Tryz.prog 179 #[.agg (stA x)] w fun e w' => e = .returned (.bool (!goodStB x)) ∧ Keeps w w' := by
 have HG := Lib.hid (goodState_any x)
 have HK := Lib.hid ((Keeps.refl w).alloc (.cells (stA x) 57))
 generalize goodStB x = r at *
 unfold stA at *
 go_enter Tryz.func179, Tryz.ntmps179
 go_wp2_with fail
 refine (HG.out _).mono ?_
 rintro e z1 ⟨rfl, hk⟩
 go_wp2_with fail
 go_ret
 exact ⟨rfl, HK.out.trans hk⟩
theorem done1_any (x : StP) (w : World) : Calls Tryz.prog 90 #[.agg (stA x)] w fun e w' => e = .returned (.bool (decide (x.s = 0))) ∧ Keeps w w' := by
 have HK := Lib.hid ((Keeps.refl w).alloc (.cells (stA x) 57))
 have HX := Lib.hid (show (x.s == 0) = decide (x.s = 0) from rfl)
 unfold stA at *
 go_enter Tryz.func90, Tryz.ntmps90
 go_wp2_with fail
 go_ret
 exact ⟨rfl, HK.out⟩
theorem envB_len {j : JobP} (h : envB j = true) : j.tos.length ≤ 20 := by
 have : inB j.tos.length 1 20 = true := by
  unfold envB at h
  cases hh : inB j.tos.length 1 20 with
  |true => rfl
  |false => rw [hh] at h; simp at h
 simp [inB] at this
 omega
set_option maxRecDepth 100000 in
theorem goodJ_any (w : World) (j : JobP) (vt vs vb : Value) (h : JobAt w j vt vs vb) (hsh : Short j) : Calls Tryz.prog 118 #[.agg (jobA j vt vs vb)] w fun e w' => e = .returned (.bool (goodJ j)) ∧ Keeps w w' := by
 obtain ⟨pt, ct, rfl, hct1, hct2⟩ := h.tos.form
 obtain ⟨ps, cs, rfl, hcs1, hcs2⟩ := h.st.form
 obtain ⟨pb, cb, rfl, hcb1, hcb2⟩ := h.body.formB
 have HK := Lib.hid ((Keeps.refl w).alloc (.cells (jobA j (.slice pt j.tos.length ct) (.slice ps j.st.length cs) (.slice pb j.body.length cb)) 55))
 have HB := Lib.hid (Blk.new w 55 (jobA j (.slice pt j.tos.length ct) (.slice ps j.st.length cs) (.slice pb j.body.length cb)) rfl)
 have HG := Lib.hid (goodEnv_any _ j _ _ _ (h.keeps HK.out) hsh)
 have HST := Lib.hid h.st
 have HL := Lib.hid hsh.2.2.2.2.1
 have HX := Lib.hid (show goodJ j = (envB j && decide (j.st.length = j.tos.length) && decide (j.body.length ≤ 32768) && !j.st.any (fun x => !goodStB x)) from by
  unfold goodJ
  congr 1
  rw [List.not_any_eq_all_not]
  simp)
 have hE : ∀ (x : Value) (w : World), (callFunc 179 #[x]).run Tryz.prog w = .ok (.enter 179 #[x]) w := fun x w => enters_of Tryz.func179 (by kernel_rfl) rfl _ _
 have HE := Lib.hid hE
 clear h hsh hE
 generalize goodJ j = r at *
 go_enter Tryz.func118, Tryz.ntmps118
 go_wp2_with (refine wpList_ld rfl jobM HB.out _ rfl rfl ?_)
 refine HG.out.mono ?_
 rintro e z1 ⟨rfl, hk⟩
 have HB1 := Lib.hid (HB.out.keeps hk)
 have HK1 := Lib.hid (HK.out.trans hk)
 clear hk HB HK HG
 generalize w.heap.size = g at *
 generalize envB j = eb at *
 cases eb with
 |false =>
  go_wp2_with fail
  go_ret
  exact ⟨by rw [HX.out]; rfl, HK1.out⟩
 |true =>
 have c4 : z1.cell? ⟨g, 4, none⟩ = some (.slice pt j.tos.length ct) := by rw [HB1.out.cell]; rfl
 have c5 : z1.cell? ⟨g, 5, none⟩ = some (.slice ps j.st.length cs) := by rw [HB1.out.cell]; rfl
 have c6 : z1.cell? ⟨g, 6, none⟩ = some (.slice pb j.body.length cb) := by rw [HB1.out.cell]; rfl
 by_cases hl : j.st.length = j.tos.length
 ·have e1 : ((j.st.length : Int) == (j.tos.length : Int)) = true := by rw [hl]; simp
  have HL2 := Lib.hid (show decide (j.st.length = j.tos.length) = true from decide_eq_true hl)
  rw [HL2.out] at HX
  clear hl HL2
  by_cases hb : j.body.length ≤ 32768
  ·have e2 : decide ((j.body.length : Int) ≤ 32768) = true := decide_eq_true (by omega)
   have e3 : decide (j.body.length ≤ 32768) = true := decide_eq_true hb
   have HC := Lib.hid (contains_any _ _ HE.out good1_any z1 _ _ (HST.out.keeps HK1.out) HL.out)
   rw [e3] at HX
   generalize j.st.any (fun x => !goodStB x) = ab at *
   go_wp2_with fail
   refine HC.out.mono ?_
   rintro e z2 ⟨rfl, hk⟩
   go_wp2_with fail
   go_ret
   exact ⟨by rw [HX.out]; rfl, HK1.out.trans hk⟩
  ·have e2 : decide ((j.body.length : Int) ≤ 32768) = false := decide_eq_false (by omega)
   have e3 : decide (j.body.length ≤ 32768) = false := decide_eq_false hb
   rw [e3] at HX
   go_wp2_with fail
   go_ret
   exact ⟨by rw [HX.out]; rfl, HK1.out⟩
 ·have e1 : ((j.st.length : Int) == (j.tos.length : Int)) = false := by simp; omega
  have HL2 := Lib.hid (show decide (j.st.length = j.tos.length) = false from decide_eq_false hl)
  rw [HL2.out] at HX
  clear hl HL2
  go_wp2_with fail
  go_ret
  exact ⟨by rw [HX.out]; rfl, HK1.out⟩
def doneB (j : JobP) : Bool := !j.st.any (fun x => decide (x.s = 0))
set_option maxRecDepth 100000 in
theorem done_any (w : World) (j : JobP) (vt vs vb : Value) (h : JobAt w j vt vs vb) (hl : j.st.length ≤ 1000000) : Calls Tryz.prog 44 #[.agg (jobA j vt vs vb)] w fun e w' => e = .returned (.bool (doneB j)) ∧ Keeps w w' := by
 have HK := Lib.hid ((Keeps.refl w).alloc (.cells (jobA j vt vs vb) 55))
 have HC := Lib.hid (contains_any 90 _ (fun x w => enters_of Tryz.func90 (by kernel_rfl) rfl _ _) done1_any (w.alloc (.cells (jobA j vt vs vb) 55)) _ _ (h.st.keeps HK.out) hl)
 have HX := Lib.hid (show doneB j = !j.st.any (fun x => decide (x.s = 0)) from rfl)
 generalize doneB j = r at *
 generalize j.st.any (fun x => decide (x.s = 0)) = ab at *
 clear h
 go_enter Tryz.func44, Tryz.ntmps44
 go_wp2_with fail
 refine HC.out.mono ?_
 rintro e z2 ⟨rfl, hk⟩
 go_wp2_with fail
 go_ret
 exact ⟨by rw [HX.out]; rfl, HK.out.trans hk⟩
end Env
end Go.Proofs.YtcleakjjefmmbaaGreat
