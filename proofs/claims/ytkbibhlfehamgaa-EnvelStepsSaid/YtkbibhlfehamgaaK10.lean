/- Several texts in one: EnMem, EnEqual, EnSame, EnLight. -/
import Derived.Test.YtkbibhlfehamgaaK02
import Derived.Test.YtkbibhlfehamgaaK06
import Derived.Test.YtkbibhlfehamgaaK07
import Derived.Test.YtkbibhlfehamgaaMid
import Derived.Test.YtkbibhlfehamgaaDrawn
import Derived.Deep.LoopGhost
import Derived.Deep.DeepCutAuto
import Derived.Deep.CutBlock
/- envel: jobs in memory; states that are right. -/
namespace Go.Proofs.Ytkbibhlfehamgaa
open Go.RowKit
namespace Env
def tgC (t : TgP) : List Value := [.int .i64 t.u, .string (bstr t.l), .string (bstr t.d)]
def stC (x : StP) : List Value := [.int .i64 x.s, .int .i64 x.t, .int .i64 x.d, .int .i64 x.c]
def stA (x : StP) : Array Value := #[.int .i64 x.s, .int .i64 x.t, .int .i64 x.d, .int .i64 x.c]
theorem tgC_len (t : TgP) : (tgC t).length = 3 := rfl
theorem stC_len (t : StP) : (stC t).length = 4 := rfl
theorem tgM : Mids Try.prog 47 3 := ⟨⟨_, Try.underlying47, rfl⟩, by kernel_rfl⟩
theorem stM : Mids Try.prog 44 4 := ⟨⟨_, Try.underlying44, rfl⟩, by kernel_rfl⟩
theorem jobM : Mids Try.prog 29 7 := ⟨⟨_, Try.underlying29, rfl⟩, by kernel_rfl⟩
theorem adM : Mids Try.prog 25 2 := ⟨⟨_, Try.underlying25, rfl⟩, by kernel_rfl⟩
theorem rowS_at {α : Type} {w : World} {v : Value} {C : Nat} {cells : α → List Value} (hC : ∀ x, (cells x).length = C) {l : List α} (h : RowS w C v l.length (l.flatMap cells)) {j : Nat} (hj : j < l.length) :
  ∃ b off cap, v = .slice (some ⟨b, off, none⟩) l.length cap ∧ w.rangeAt b (off + j * C) (cells l[j]) := by
 obtain ⟨b, off, cap, hv, -, -, hc⟩ := h.at_ (by omega)
 refine ⟨b, off, cap, hv, fun i x hx => ?_⟩
 have hi : i < C := by
  have := (List.getElem?_eq_some_iff.1 hx).1
  rwa [hC] at this
 rw [Nat.add_assoc]
 refine hc.out (j * C + i) x ?_
 rw [flat_get hC l j i _ (List.getElem?_eq_getElem hj) hi]
 exact hx
abbrev jobA (j : JobP) (vt vs vb : Value) : Array Value := #[.int .i64 j.id, .int .i64 j.arr, .string (bstr j.fl), .string (bstr j.fd), vt, vs, vb]
/-- a job's three slices -/
structure JobAt (w : World) (j : JobP) (vt vs vb : Value) : Prop where
 tos : RowS w 3 vt j.tos.length (j.tos.flatMap tgC)
 st : RowS w 4 vs j.st.length (j.st.flatMap stC)
 body : Row w vb (j.body.map u8v)
theorem JobAt.keeps {w w' : World} {j : JobP} {vt vs vb : Value} (h : JobAt w j vt vs vb) (k : Keeps w w') : JobAt w' j vt vs vb := ⟨h.tos.keeps k, h.st.keeps k, h.body.keeps k⟩
/-- texts of a bounded length -/
def Short (j : JobP) : Prop := j.fl.length ≤ 1000000 ∧ j.fd.length ≤ 1000000 ∧ (∀ t ∈ j.tos, t.l.length ≤ 1000000 ∧ t.d.length ≤ 1000000 ∧ (Lit.int .i64 t.u).wf = true) ∧ j.tos.length ≤ 1000000 ∧ j.st.length ≤ 1000000 ∧ j.body.length ≤ 1000000

theorem within_any (n a b : Int) (w : World) : Calls Try.prog 34 #[.int .i64 n, .int .i64 a, .int .i64 b] w fun e w' => e = .returned (.bool (inB n a b)) ∧ w = w' := by
 have HX := Lib.hid (show inB n a b = decide (a ≤ n ∧ n ≤ b) from by unfold inB; rw [Bool.decide_and])
 go_enter Try.func34, Try.ntmps34
 go_wp2_with fail
 all_goals
  go_ret
  refine ⟨?_, rfl⟩
  rw [HX.out]
  refine retB ?_
  rw [Bool.eq_iff_iff]
  simp
  try omega
set_option maxRecDepth 100000 in
theorem goodState_any (x : StP) (w : World) : Calls Try.prog 33 #[.agg (stA x)] w fun e w' => e = .returned (.bool (goodStB x)) ∧ Keeps w w' := by
 obtain ⟨s, t, d, c⟩ := x
 have HX := Lib.hid (show goodStB ⟨s, t, d, c⟩ = (inB s 0 3 && inB t 0 65535 && inB d 0 4503599627370496 && (decide (c = 0) || inB c 200 599)) from rfl)
 have H1 := Lib.hid (within_any s 0 3)
 have H2 := Lib.hid (within_any t 0 65535)
 have H3 := Lib.hid (within_any d 0 4503599627370496)
 have H4 := Lib.hid (within_any c 200 599)
 have HK := Lib.hid ((Keeps.refl w).alloc (.cells #[.int .i64 s, .int .i64 t, .int .i64 d, .int .i64 c] 44))
 generalize goodStB ⟨s, t, d, c⟩ = r at *
 generalize inB s 0 3 = b1 at *
 generalize inB t 0 65535 = b2 at *
 generalize inB d 0 4503599627370496 = b3 at *
 generalize inB c 200 599 = b4 at *
 unfold stA
 go_enter Try.func33, Try.ntmps33
 go_wp2_with fail
 refine (H1.out _).mono ?_
 rintro e w1 ⟨rfl, rfl⟩
 cases b1 with
 | false =>
  go_wp2_with fail
  go_ret
  exact ⟨by rw [HX.out]; rfl, HK.out⟩
 | true =>
 go_wp2_with fail
 refine (H2.out _).mono ?_
 rintro e w1 ⟨rfl, rfl⟩
 cases b2 with
 | false =>
  go_wp2_with fail
  go_ret
  exact ⟨by rw [HX.out]; rfl, HK.out⟩
 | true =>
 go_wp2_with fail
 refine (H3.out _).mono ?_
 rintro e w1 ⟨rfl, rfl⟩
 cases b3 with
 | false =>
  go_wp2_with fail
  go_ret
  exact ⟨by rw [HX.out]; rfl, HK.out⟩
 | true =>
 by_cases hc : c = 0
 ·subst hc
  go_wp2_with fail
  go_ret
  exact ⟨by rw [HX.out]; rfl, HK.out⟩
 ·have e1 : (c == 0) = false := by simp [hc]
  have HC := Lib.hid (show decide (c = 0) = false from decide_eq_false hc)
  clear hc
  go_wp2_with fail
  refine (H4.out _).mono ?_
  rintro e w1 ⟨rfl, rfl⟩
  go_wp2_with fail
  go_ret
  exact ⟨retB (by rw [HX.out, HC.out]; cases b4 <;> rfl), HK.out⟩
end Env
end Go.Proofs.Ytkbibhlfehamgaa

/- slices.Equal at targets and states, bytes.Equal. Printed by gen_ensame.py. -/
namespace Go.Proofs.Ytkbibhlfehamgaa
open Go.RowKit
namespace Env
open Adr (Str)
theorem estr_at {w : World} {v : Value} {l : List UInt8} (h : Row w v (l.map u8v)) : (convert 22 9 v).run Try.prog w = .ok (.string (bstr l)) w := h.str Try.underlying22 Try.underlying5 Try.underlying9
set_option maxRecDepth 100000 in
theorem equalB_any (v1 v2 : Value) (l1 l2 : List UInt8) (w : World) (h1 : Row w v1 (l1.map u8v)) (h2 : Row w v2 (l2.map u8v)) :
  Calls Try.prog 27 #[v1, v2] w fun e w' => e = .returned (.bool (decide (l1 = l2))) ∧ Keeps w w' := by
 have c1 := estr_at h1
 have c2 := estr_at h2
 obtain ⟨p1, k1, rfl, -, -⟩ := h1.form
 obtain ⟨p2, k2, rfl, -, -⟩ := h2.form
 simp only [List.length_map] at c1 c2 ⊢
 clear h1 h2
 go_enter Try.func27, Try.ntmps27
 go_wp2_with fail
 go_ret
 exact ⟨congrArg (fun b => Ending.returned (Value.bool b)) (by rw [bstr_toList, bstr_toList, Bool.eq_iff_iff]; simp), Keeps.refl _⟩
set_option maxRecDepth 100000 in
set_option maxHeartbeats 1000000 in
theorem eqT_any (w : World) (v1 v2 : Value) (A B : List TgP) (hA : RowS w 3 v1 A.length (A.flatMap tgC)) (hB : RowS w 3 v2 B.length (B.flatMap tgC)) (hlA : A.length ≤ 1000000) : Calls Try.prog 25 #[v1, v2] w fun e w' => e = .returned (.bool (decide (A = B))) ∧ Keeps w w' := by
 obtain ⟨p1, c1, rfl, -, -⟩ := hA.form
 obtain ⟨p2, c2, rfl, -, -⟩ := hB.form
 have HA := Lib.hid hA
 have HB := Lib.hid hB
 clear hA hB
 obtain ⟨r, hr⟩ : ∃ r, decide (A = B) = r := ⟨_, rfl⟩
 have HR := Lib.hid hr
 rw [hr]
 clear hr
 by_cases hl : A.length = B.length
 ·have e0 : ((A.length : Int) != (B.length : Int)) = false := by simp [hl]
  have HL := Lib.hid hl
  clear hl
  go_enter Try.func25, Try.ntmps25
  go_wp2_with fail
  go_loopw [13] (fun iv wr => ∃ i : Nat, iv = .int .i64 (i : Int) ∧ i ≤ A.length ∧ Hid (A.take i = B.take i) ∧ Hid (Keeps w wr)) (fun iv _ => A.length - (intOf iv).toNat)
  case atStart => exact ⟨0, rfl, Nat.zero_le _, Lib.hid (by simp), Lib.hid (Keeps.refl _)⟩
  case round =>
   obtain ⟨i, rfl, hi, HT, HK⟩ := hrel
   by_cases hlt : i < A.length
   ·have hw : IntKind.i64.wrap ((i : Int) + 1) = (i : Int) + 1 := IntWalk.i64_in _ (by omega)
    have hltB : i < B.length := by have := HL.out; omega
    obtain ⟨m1, o1, k1, hv1, hg1⟩ := rowS_at tgC_len (HA.out.keeps HK.out) hlt
    obtain ⟨m2, o2, k2, hv2, hg2⟩ := rowS_at tgC_len (HB.out.keeps HK.out) hltB
    simp only [Value.slice.injEq] at hv1 hv2
    obtain ⟨rfl, -, rfl⟩ := hv1
    obtain ⟨rfl, -, rfl⟩ := hv2
    have HN := Lib.hid (show (A[i] = B[i] → A.take (i + 1) = B.take (i + 1)) ∧ (A[i] ≠ B[i] → A ≠ B) from by
     constructor
     ·intro h
      rw [List.take_succ_eq_append_getElem hlt, List.take_succ_eq_append_getElem hltB, HT.out, h]
     ·intro h e
      subst e
      exact h rfl)
    generalize A[i] = x at *
    generalize B[i] = y at *
    obtain ⟨a0, a1, a2⟩ := x
    obtain ⟨b0, b1, b2⟩ := y
    have HG1 := Lib.hid (show wr.rangeAt m1 (o1 + i * 3) [.int .i64 a0, .string (bstr a1), .string (bstr a2)] from hg1)
    have HG2 := Lib.hid (show wr.rangeAt m2 (o2 + i * 3) [.int .i64 b0, .string (bstr b1), .string (bstr b2)] from hg2)
    clear hg1 hg2
    have aq0 : wr.cell? ⟨m1, o1 + i * 3, none⟩ = some (.int .i64 a0) := HG1.out 0 _ rfl
    have bq0 : wr.cell? ⟨m2, o2 + i * 3, none⟩ = some (.int .i64 b0) := HG2.out 0 _ rfl
    have aq1 : wr.cell? ⟨m1, o1 + i * 3 + 1, none⟩ = some (.string (bstr a1)) := HG1.out 1 _ rfl
    have bq1 : wr.cell? ⟨m2, o2 + i * 3 + 1, none⟩ = some (.string (bstr b1)) := HG2.out 1 _ rfl
    have aq2 : wr.cell? ⟨m1, o1 + i * 3 + 2, none⟩ = some (.string (bstr a2)) := HG1.out 2 _ rfl
    have bq2 : wr.cell? ⟨m2, o2 + i * 3 + 2, none⟩ = some (.string (bstr b2)) := HG2.out 2 _ rfl
    obtain ⟨nf, hnf⟩ : ∃ b, decide ((⟨a0, a1, a2⟩ : TgP) ≠ ⟨b0, b1, b2⟩) = b := ⟨_, rfl⟩
    have HNF := Lib.hid hnf
    have HX := Lib.hid (fun w' : World => show (if a0 = b0 then if (bstr a1).toList = (bstr b1).toList then if (bstr a2).toList = (bstr b2).toList then Result.ok (Next.value (Value.bool false)) w' else Result.ok (Next.value (Value.bool true)) w' else Result.ok (Next.value (Value.bool true)) w' else Result.ok (Next.value (Value.bool true)) w') = Result.ok (Next.value (Value.bool nf)) w' from by
     rw [← hnf]
     by_cases g0 : a0 = b0 <;> by_cases g1 : a1 = b1 <;> by_cases g2 : a2 = b2 <;> simp [g0, g1, g2, bstr_toList])
    clear hnf HG1 HG2
    have hlt' : (i : Int) < (B.length : Int) := by omega
    go_upto_region 6 with fail
    refine wp_region_noPanic ?_
    refine wp_region_held_drew (S := fun w' => Keeps wr w') (by kernel_rfl) (((Keeps.refl wr).drew)) (fun _ => ?_)
    have hHeld : Keeps wr (wr).drew := ((Keeps.refl wr).drew)
    generalize World.drew wr = xs at *
    refine tq 0 16 ?_
    refine tq 1 17 ?_
    refine tq 2 18 ?_
    refine tq 3 19 ?_ (hy := fun w' hSw => by
     have hSw : Keeps wr w' := hSw
     have h0 := keep1 hSw aq0
     have h1 := keep1 hSw aq1
     have h2 := keep1 hSw aq2
     clear hSw
     go_simp
     try with_reducible rfl)
    refine tq 4 20 ?_
    refine tq 5 21 ?_
    refine tq 6 22 ?_
    refine tq 7 23 ?_ (hy := fun w' hSw => by
     have hSw : Keeps wr w' := hSw
     have h0 := keep1 hSw bq0
     have h1 := keep1 hSw bq1
     have h2 := keep1 hSw bq2
     clear hSw
     go_simp
     try with_reducible rfl)
    refine tq 8 24 ?_ (hy := fun w' hSw => by
     have hSw : Keeps wr w' := hSw
     go_simp
     exact HX.out w')
    refine wpAnyH_done (by kernel_rfl) ?_ _
    refine NoPanic.normal ?_
    have HK2 := Lib.hid (HK.out.trans hHeld)
    clear hHeld aq0 bq0 aq1 bq1 aq2 bq2
    cases nf with
    | true =>
     have HRX := Lib.hid (show r = false from by rw [← HR.out]; exact decide_eq_false (HN.out.2 (of_decide_eq_true HNF.out)))
     go_wp2_with fail
     go_ret
     exact ⟨by rw [HRX.out]; rfl, HK2.out⟩
    | false =>
     have HT2 := Lib.hid (HN.out.1 (Classical.not_not.1 (of_decide_eq_false HNF.out)))
     go_wp2_with fail
     go_roundw
     case rel => exact ⟨i + 1, by simp, by omega, HT2, HK2⟩
     case measure =>
      simp only [intOf]
      omega
   ·have hie : i = A.length := by omega
    have HRX := Lib.hid (show r = true from by
     rw [← HR.out]
     have := HT.out
     rw [List.take_of_length_le (by omega), List.take_of_length_le (by have := HL.out; omega)] at this
     exact decide_eq_true this)
    clear hie
    go_wp2_with fail
    go_ret
    exact ⟨by rw [HRX.out]; rfl, HK.out⟩
 ·have e0 : ((A.length : Int) != (B.length : Int)) = true := by simp; omega
  have HRX := Lib.hid (show r = false from by rw [← HR.out]; exact decide_eq_false (fun h => hl (by rw [h])))
  clear hl
  go_enter Try.func25, Try.ntmps25
  go_wp2_with fail
  go_ret
  exact ⟨by rw [HRX.out]; rfl, Keeps.refl _⟩
set_option maxRecDepth 100000 in
set_option maxHeartbeats 1000000 in
theorem eqS_any (w : World) (v1 v2 : Value) (A B : List StP) (hA : RowS w 4 v1 A.length (A.flatMap stC)) (hB : RowS w 4 v2 B.length (B.flatMap stC)) (hlA : A.length ≤ 1000000) : Calls Try.prog 26 #[v1, v2] w fun e w' => e = .returned (.bool (decide (A = B))) ∧ Keeps w w' := by
 obtain ⟨p1, c1, rfl, -, -⟩ := hA.form
 obtain ⟨p2, c2, rfl, -, -⟩ := hB.form
 have HA := Lib.hid hA
 have HB := Lib.hid hB
 clear hA hB
 obtain ⟨r, hr⟩ : ∃ r, decide (A = B) = r := ⟨_, rfl⟩
 have HR := Lib.hid hr
 rw [hr]
 clear hr
 by_cases hl : A.length = B.length
 ·have e0 : ((A.length : Int) != (B.length : Int)) = false := by simp [hl]
  have HL := Lib.hid hl
  clear hl
  go_enter Try.func26, Try.ntmps26
  go_wp2_with fail
  go_loopw [13] (fun iv wr => ∃ i : Nat, iv = .int .i64 (i : Int) ∧ i ≤ A.length ∧ Hid (A.take i = B.take i) ∧ Hid (Keeps w wr)) (fun iv _ => A.length - (intOf iv).toNat)
  case atStart => exact ⟨0, rfl, Nat.zero_le _, Lib.hid (by simp), Lib.hid (Keeps.refl _)⟩
  case round =>
   obtain ⟨i, rfl, hi, HT, HK⟩ := hrel
   by_cases hlt : i < A.length
   ·have hw : IntKind.i64.wrap ((i : Int) + 1) = (i : Int) + 1 := IntWalk.i64_in _ (by omega)
    have hltB : i < B.length := by have := HL.out; omega
    obtain ⟨m1, o1, k1, hv1, hg1⟩ := rowS_at stC_len (HA.out.keeps HK.out) hlt
    obtain ⟨m2, o2, k2, hv2, hg2⟩ := rowS_at stC_len (HB.out.keeps HK.out) hltB
    simp only [Value.slice.injEq] at hv1 hv2
    obtain ⟨rfl, -, rfl⟩ := hv1
    obtain ⟨rfl, -, rfl⟩ := hv2
    have HN := Lib.hid (show (A[i] = B[i] → A.take (i + 1) = B.take (i + 1)) ∧ (A[i] ≠ B[i] → A ≠ B) from by
     constructor
     ·intro h
      rw [List.take_succ_eq_append_getElem hlt, List.take_succ_eq_append_getElem hltB, HT.out, h]
     ·intro h e
      subst e
      exact h rfl)
    generalize A[i] = x at *
    generalize B[i] = y at *
    obtain ⟨a0, a1, a2, a3⟩ := x
    obtain ⟨b0, b1, b2, b3⟩ := y
    have HG1 := Lib.hid (show wr.rangeAt m1 (o1 + i * 4) [.int .i64 a0, .int .i64 a1, .int .i64 a2, .int .i64 a3] from hg1)
    have HG2 := Lib.hid (show wr.rangeAt m2 (o2 + i * 4) [.int .i64 b0, .int .i64 b1, .int .i64 b2, .int .i64 b3] from hg2)
    clear hg1 hg2
    have aq0 : wr.cell? ⟨m1, o1 + i * 4, none⟩ = some (.int .i64 a0) := HG1.out 0 _ rfl
    have bq0 : wr.cell? ⟨m2, o2 + i * 4, none⟩ = some (.int .i64 b0) := HG2.out 0 _ rfl
    have aq1 : wr.cell? ⟨m1, o1 + i * 4 + 1, none⟩ = some (.int .i64 a1) := HG1.out 1 _ rfl
    have bq1 : wr.cell? ⟨m2, o2 + i * 4 + 1, none⟩ = some (.int .i64 b1) := HG2.out 1 _ rfl
    have aq2 : wr.cell? ⟨m1, o1 + i * 4 + 2, none⟩ = some (.int .i64 a2) := HG1.out 2 _ rfl
    have bq2 : wr.cell? ⟨m2, o2 + i * 4 + 2, none⟩ = some (.int .i64 b2) := HG2.out 2 _ rfl
    have aq3 : wr.cell? ⟨m1, o1 + i * 4 + 3, none⟩ = some (.int .i64 a3) := HG1.out 3 _ rfl
    have bq3 : wr.cell? ⟨m2, o2 + i * 4 + 3, none⟩ = some (.int .i64 b3) := HG2.out 3 _ rfl
    obtain ⟨nf, hnf⟩ : ∃ b, decide ((⟨a0, a1, a2, a3⟩ : StP) ≠ ⟨b0, b1, b2, b3⟩) = b := ⟨_, rfl⟩
    have HNF := Lib.hid hnf
    have HX := Lib.hid (fun w' : World => show (if a0 = b0 then if a1 = b1 then if a2 = b2 then if a3 = b3 then Result.ok (Next.value (Value.bool false)) w' else Result.ok (Next.value (Value.bool true)) w' else Result.ok (Next.value (Value.bool true)) w' else Result.ok (Next.value (Value.bool true)) w' else Result.ok (Next.value (Value.bool true)) w') = Result.ok (Next.value (Value.bool nf)) w' from by
     rw [← hnf]
     by_cases g0 : a0 = b0 <;> by_cases g1 : a1 = b1 <;> by_cases g2 : a2 = b2 <;> by_cases g3 : a3 = b3 <;> simp [g0, g1, g2, g3, bstr_toList])
    clear hnf HG1 HG2
    have hlt' : (i : Int) < (B.length : Int) := by omega
    go_upto_region 6 with fail
    refine wp_region_noPanic ?_
    refine wp_region_held_drew (S := fun w' => Keeps wr w') (by kernel_rfl) (((Keeps.refl wr).drew)) (fun _ => ?_)
    have hHeld : Keeps wr (wr).drew := ((Keeps.refl wr).drew)
    generalize World.drew wr = xs at *
    refine tq 0 16 ?_
    refine tq 1 17 ?_
    refine tq 2 18 ?_
    refine tq 3 19 ?_ (hy := fun w' hSw => by
     have hSw : Keeps wr w' := hSw
     have h0 := keep1 hSw aq0
     have h1 := keep1 hSw aq1
     have h2 := keep1 hSw aq2
     have h3 := keep1 hSw aq3
     clear hSw
     go_simp
     try with_reducible rfl)
    refine tq 4 20 ?_
    refine tq 5 21 ?_
    refine tq 6 22 ?_
    refine tq 7 23 ?_ (hy := fun w' hSw => by
     have hSw : Keeps wr w' := hSw
     have h0 := keep1 hSw bq0
     have h1 := keep1 hSw bq1
     have h2 := keep1 hSw bq2
     have h3 := keep1 hSw bq3
     clear hSw
     go_simp
     try with_reducible rfl)
    refine tq 8 24 ?_ (hy := fun w' hSw => by
     have hSw : Keeps wr w' := hSw
     go_simp
     exact HX.out w')
    refine wpAnyH_done (by kernel_rfl) ?_ _
    refine NoPanic.normal ?_
    have HK2 := Lib.hid (HK.out.trans hHeld)
    clear hHeld aq0 bq0 aq1 bq1 aq2 bq2 aq3 bq3
    cases nf with
    | true =>
     have HRX := Lib.hid (show r = false from by rw [← HR.out]; exact decide_eq_false (HN.out.2 (of_decide_eq_true HNF.out)))
     go_wp2_with fail
     go_ret
     exact ⟨by rw [HRX.out]; rfl, HK2.out⟩
    | false =>
     have HT2 := Lib.hid (HN.out.1 (Classical.not_not.1 (of_decide_eq_false HNF.out)))
     go_wp2_with fail
     go_roundw
     case rel => exact ⟨i + 1, by simp, by omega, HT2, HK2⟩
     case measure =>
      simp only [intOf]
      omega
   ·have hie : i = A.length := by omega
    have HRX := Lib.hid (show r = true from by
     rw [← HR.out]
     have := HT.out
     rw [List.take_of_length_le (by omega), List.take_of_length_le (by have := HL.out; omega)] at this
     exact decide_eq_true this)
    clear hie
    go_wp2_with fail
    go_ret
    exact ⟨by rw [HRX.out]; rfl, HK.out⟩
 ·have e0 : ((A.length : Int) != (B.length : Int)) = true := by simp; omega
  have HRX := Lib.hid (show r = false from by rw [← HR.out]; exact decide_eq_false (fun h => hl (by rw [h])))
  clear hl
  go_enter Try.func26, Try.ntmps26
  go_wp2_with fail
  go_ret
  exact ⟨by rw [HRX.out]; rfl, Keeps.refl _⟩
end Env
end Go.Proofs.Ytkbibhlfehamgaa

/- envel.Same, ref15.Same. Printed by gen_ensame2.py. -/
namespace Go.Proofs.Ytkbibhlfehamgaa
open Go.RowKit
namespace Env
open Adr (Str)
set_option maxRecDepth 100000 in
set_option maxHeartbeats 2000000 in
theorem same_any (w : World) (x y : JobP) (vt vs vb ut us ub : Value) (hx : JobAt w x vt vs vb) (hy : JobAt w y ut us ub) (hlT : x.tos.length ≤ 1000000) (hlS : x.st.length ≤ 1000000) : Calls Try.prog 9 #[.agg (jobA x vt vs vb), .agg (jobA y ut us ub)] w fun e w' => e = .returned (.bool (decide (x = y))) ∧ Keeps w w' := by
 obtain ⟨id1, arr1, fl1, fd1, T1, S1, B1⟩ := x
 obtain ⟨id2, arr2, fl2, fd2, T2, S2, B2⟩ := y
 obtain ⟨pt1, ct1, rfl, -, -⟩ := hx.tos.form
 obtain ⟨ps1, cs1, rfl, -, -⟩ := hx.st.form
 obtain ⟨pb1, cb1, rfl, -, -⟩ := hx.body.formB
 obtain ⟨pt2, ct2, rfl, -, -⟩ := hy.tos.form
 obtain ⟨ps2, cs2, rfl, -, -⟩ := hy.st.form
 obtain ⟨pb2, cb2, rfl, -, -⟩ := hy.body.formB
 simp only at hlT hlS
 have HA := Lib.hid hx
 have HB := Lib.hid hy
 obtain ⟨r, hr⟩ : ∃ r, decide ((⟨id1, arr1, fl1, fd1, T1, S1, B1⟩ : JobP) = ⟨id2, arr2, fl2, fd2, T2, S2, B2⟩) = r := ⟨_, rfl⟩
 have HR := Lib.hid hr
 rw [hr]
 clear hr hx hy
 go_enter Try.func9, Try.ntmps9
 go_upto_region 1 with fail
 generalize hW : World.alloc (World.alloc w _) _ = w2
 have HK := Lib.hid (show Keeps w w2 from by rw [← hW]; exact ((Keeps.refl _).alloc _).alloc _)
 have HAB := Lib.hid (show Blk w2 w.heap.size 29 (jobA ⟨id1, arr1, fl1, fd1, T1, S1, B1⟩ (.slice pt1 T1.length ct1) (.slice ps1 S1.length cs1) (.slice pb1 B1.length cb1)) from by rw [← hW]; exact (Blk.new _ _ _ rfl).alloc _)
 have HBB := Lib.hid (show Blk w2 (w.heap.size + 1) 29 (jobA ⟨id2, arr2, fl2, fd2, T2, S2, B2⟩ (.slice pt2 T2.length ct2) (.slice ps2 S2.length cs2) (.slice pb2 B2.length cb2)) from by rw [← hW]; exact Blk.new _ _ _ (by show _ = (w.heap.push _).size; simp))
 clear hW
 generalize w.heap.size = Q at *
 have a0 : w2.cell? ⟨Q, 0, none⟩ = some (.int .i64 id1) := by rw [HAB.out.cell]; rfl
 have b0 : w2.cell? ⟨Q + 1, 0, none⟩ = some (.int .i64 id2) := by rw [HBB.out.cell]; rfl
 have a1 : w2.cell? ⟨Q, 1, none⟩ = some (.int .i64 arr1) := by rw [HAB.out.cell]; rfl
 have b1 : w2.cell? ⟨Q + 1, 1, none⟩ = some (.int .i64 arr2) := by rw [HBB.out.cell]; rfl
 have a2 : w2.cell? ⟨Q, 2, none⟩ = some (.string (bstr fl1)) := by rw [HAB.out.cell]; rfl
 have b2 : w2.cell? ⟨Q + 1, 2, none⟩ = some (.string (bstr fl2)) := by rw [HBB.out.cell]; rfl
 have a3 : w2.cell? ⟨Q, 3, none⟩ = some (.string (bstr fd1)) := by rw [HAB.out.cell]; rfl
 have b3 : w2.cell? ⟨Q + 1, 3, none⟩ = some (.string (bstr fd2)) := by rw [HBB.out.cell]; rfl
 have a4 : w2.cell? ⟨Q, 4, none⟩ = some (.slice pt1 T1.length ct1) := by rw [HAB.out.cell]; rfl
 have b4 : w2.cell? ⟨Q + 1, 4, none⟩ = some (.slice pt2 T2.length ct2) := by rw [HBB.out.cell]; rfl
 have a5 : w2.cell? ⟨Q, 5, none⟩ = some (.slice ps1 S1.length cs1) := by rw [HAB.out.cell]; rfl
 have b5 : w2.cell? ⟨Q + 1, 5, none⟩ = some (.slice ps2 S2.length cs2) := by rw [HBB.out.cell]; rfl
 have a6 : w2.cell? ⟨Q, 6, none⟩ = some (.slice pb1 B1.length cb1) := by rw [HAB.out.cell]; rfl
 have b6 : w2.cell? ⟨Q + 1, 6, none⟩ = some (.slice pb2 B2.length cb2) := by rw [HBB.out.cell]; rfl
 by_cases g0 : id1 = id2
 rotate_left
 ·have e : (id1 == id2) = false := by simp [g0]
  have HX := Lib.hid (show r = false from by rw [← HR.out]; exact decide_eq_false (by intro hh; cases hh; exact g0 rfl))
  clear g0
  go_wp2_with fail
  go_ret
  exact ⟨by rw [HX.out]; rfl, HK.out⟩
 have eg0 : (id1 == id2) = true := by simp [g0]
 have Eg0 := Lib.hid g0
 clear g0
 by_cases g1 : arr1 = arr2
 rotate_left
 ·have e : (arr1 == arr2) = false := by simp [g1]
  have HX := Lib.hid (show r = false from by rw [← HR.out]; exact decide_eq_false (by intro hh; cases hh; exact g1 rfl))
  clear g1
  go_wp2_with fail
  go_ret
  exact ⟨by rw [HX.out]; rfl, HK.out⟩
 have eg1 : (arr1 == arr2) = true := by simp [g1]
 have Eg1 := Lib.hid g1
 clear g1
 by_cases g2 : fl1 = fl2
 rotate_left
 ·have e : ¬ (bstr fl1).toList = (bstr fl2).toList := by rw [bstr_toList, bstr_toList]; exact g2
  have HX := Lib.hid (show r = false from by rw [← HR.out]; exact decide_eq_false (by intro hh; cases hh; exact g2 rfl))
  clear g2
  go_wp2_with fail
  go_ret
  exact ⟨by rw [HX.out]; rfl, HK.out⟩
 have eg2 : (bstr fl1).toList = (bstr fl2).toList := by rw [g2]
 have Eg2 := Lib.hid g2
 clear g2
 by_cases g3 : fd1 = fd2
 rotate_left
 ·have e : ¬ (bstr fd1).toList = (bstr fd2).toList := by rw [bstr_toList, bstr_toList]; exact g3
  have HX := Lib.hid (show r = false from by rw [← HR.out]; exact decide_eq_false (by intro hh; cases hh; exact g3 rfl))
  clear g3
  go_wp2_with fail
  go_ret
  exact ⟨by rw [HX.out]; rfl, HK.out⟩
 have eg3 : (bstr fd1).toList = (bstr fd2).toList := by rw [g3]
 have Eg3 := Lib.hid g3
 clear g3
 go_wp2_with fail
 refine (eqT_any _ _ _ T1 T2 (HA.out.tos.keeps HK.out) (HB.out.tos.keeps HK.out) hlT).mono ?_
 rintro e z1 ⟨rfl, hk⟩
 have HK := Lib.hid (HK.out.trans hk)
 have HAB := Lib.hid (HAB.out.keeps hk)
 have HBB := Lib.hid (HBB.out.keeps hk)
 clear hk a0 b0 a1 b1 a2 b2 a3 b3 a4 b4 a5 b5 a6 b6
 by_cases h1 : T1 = T2
 rotate_left
 ·have ed := decide_eq_false h1
  have HX := Lib.hid (show r = false from by rw [← HR.out]; exact decide_eq_false (by intro hh; cases hh; exact h1 rfl))
  clear h1
  rw [ed]
  go_wp2_with fail
  go_ret
  exact ⟨by rw [HX.out]; rfl, HK.out⟩
 have ed1 := decide_eq_true h1
 have H1 := Lib.hid h1
 clear h1
 rw [ed1]
 clear ed1
 have a5 : z1.cell? ⟨Q, 5, none⟩ = some (.slice ps1 S1.length cs1) := by rw [HAB.out.cell]; rfl
 have b5 : z1.cell? ⟨Q + 1, 5, none⟩ = some (.slice ps2 S2.length cs2) := by rw [HBB.out.cell]; rfl
 have a6 : z1.cell? ⟨Q, 6, none⟩ = some (.slice pb1 B1.length cb1) := by rw [HAB.out.cell]; rfl
 have b6 : z1.cell? ⟨Q + 1, 6, none⟩ = some (.slice pb2 B2.length cb2) := by rw [HBB.out.cell]; rfl
 go_wp2_with fail
 refine (eqS_any _ _ _ S1 S2 (HA.out.st.keeps HK.out) (HB.out.st.keeps HK.out) hlS).mono ?_
 rintro e z2 ⟨rfl, hk⟩
 have HK := Lib.hid (HK.out.trans hk)
 have HAB := Lib.hid (HAB.out.keeps hk)
 have HBB := Lib.hid (HBB.out.keeps hk)
 clear hk a5 b5 a6 b6
 by_cases h2 : S1 = S2
 rotate_left
 ·have ed := decide_eq_false h2
  have HX := Lib.hid (show r = false from by rw [← HR.out]; exact decide_eq_false (by intro hh; cases hh; exact h2 rfl))
  clear h2
  rw [ed]
  go_wp2_with fail
  go_ret
  exact ⟨by rw [HX.out]; rfl, HK.out⟩
 have ed2 := decide_eq_true h2
 have H2 := Lib.hid h2
 clear h2
 rw [ed2]
 clear ed2
 have a6 : z2.cell? ⟨Q, 6, none⟩ = some (.slice pb1 B1.length cb1) := by rw [HAB.out.cell]; rfl
 have b6 : z2.cell? ⟨Q + 1, 6, none⟩ = some (.slice pb2 B2.length cb2) := by rw [HBB.out.cell]; rfl
 go_wp2_with fail
 refine (equalB_any _ _ B1 B2 _ (HA.out.body.keeps HK.out) (HB.out.body.keeps HK.out)).mono ?_
 rintro e z3 ⟨rfl, hk⟩
 have HK := Lib.hid (HK.out.trans hk)
 have HAB := Lib.hid (HAB.out.keeps hk)
 have HBB := Lib.hid (HBB.out.keeps hk)
 clear hk a6 b6
 by_cases h3 : B1 = B2
 rotate_left
 ·have ed := decide_eq_false h3
  have HX := Lib.hid (show r = false from by rw [← HR.out]; exact decide_eq_false (by intro hh; cases hh; exact h3 rfl))
  clear h3
  rw [ed]
  go_wp2_with fail
  go_ret
  exact ⟨by rw [HX.out]; rfl, HK.out⟩
 have ed3 := decide_eq_true h3
 have H3 := Lib.hid h3
 clear h3
 rw [ed3]
 clear ed3
 have HX := Lib.hid (show r = true from by rw [← HR.out]; exact decide_eq_true (by rw [Eg0.out, Eg1.out, Eg2.out, Eg3.out, H1.out, H2.out, H3.out]))
 go_wp2_with fail
 go_ret
 exact ⟨by rw [HX.out]; rfl, HK.out⟩
set_option maxRecDepth 100000 in
set_option maxHeartbeats 4000000 in
theorem rsame_any (w : World) (x y : JobP) (vt vs vb ut us ub : Value) (hx : JobAt w x vt vs vb) (hy : JobAt w y ut us ub) (hlT : x.tos.length ≤ 1000000) (hlS : x.st.length ≤ 1000000) : Calls Try.prog 10 #[.agg (jobA x vt vs vb), .agg (jobA y ut us ub)] w fun e w' => e = .returned (.bool (decide (x = y))) ∧ Keeps w w' := by
 obtain ⟨id1, arr1, fl1, fd1, T1, S1, B1⟩ := x
 obtain ⟨id2, arr2, fl2, fd2, T2, S2, B2⟩ := y
 obtain ⟨pt1, ct1, rfl, -, -⟩ := hx.tos.form
 obtain ⟨ps1, cs1, rfl, -, -⟩ := hx.st.form
 obtain ⟨pb1, cb1, rfl, -, -⟩ := hx.body.formB
 obtain ⟨pt2, ct2, rfl, -, -⟩ := hy.tos.form
 obtain ⟨ps2, cs2, rfl, -, -⟩ := hy.st.form
 obtain ⟨pb2, cb2, rfl, -, -⟩ := hy.body.formB
 simp only at hlT hlS
 have HA := Lib.hid hx
 have HB := Lib.hid hy
 obtain ⟨r, hr⟩ : ∃ r, decide ((⟨id1, arr1, fl1, fd1, T1, S1, B1⟩ : JobP) = ⟨id2, arr2, fl2, fd2, T2, S2, B2⟩) = r := ⟨_, rfl⟩
 have HR := Lib.hid hr
 rw [hr]
 clear hr hx hy
 go_enter Try.func10, Try.ntmps10
 go_upto_region 1 with fail
 generalize hW : World.alloc (World.alloc w _) _ = w2
 have HK := Lib.hid (show Keeps w w2 from by rw [← hW]; exact ((Keeps.refl _).alloc _).alloc _)
 have HAB := Lib.hid (show Blk w2 w.heap.size 29 (jobA ⟨id1, arr1, fl1, fd1, T1, S1, B1⟩ (.slice pt1 T1.length ct1) (.slice ps1 S1.length cs1) (.slice pb1 B1.length cb1)) from by rw [← hW]; exact (Blk.new _ _ _ rfl).alloc _)
 have HBB := Lib.hid (show Blk w2 (w.heap.size + 1) 29 (jobA ⟨id2, arr2, fl2, fd2, T2, S2, B2⟩ (.slice pt2 T2.length ct2) (.slice ps2 S2.length cs2) (.slice pb2 B2.length cb2)) from by rw [← hW]; exact Blk.new _ _ _ (by show _ = (w.heap.push _).size; simp))
 clear hW
 generalize w.heap.size = Q at *
 have cA := estr_at (HA.out.body.keeps HK.out)
 have cB := estr_at (HB.out.body.keeps HK.out)
 simp only at cA cB
 have a0 : w2.cell? ⟨Q, 0, none⟩ = some (.int .i64 id1) := by rw [HAB.out.cell]; rfl
 have b0 : w2.cell? ⟨Q + 1, 0, none⟩ = some (.int .i64 id2) := by rw [HBB.out.cell]; rfl
 have a1 : w2.cell? ⟨Q, 1, none⟩ = some (.int .i64 arr1) := by rw [HAB.out.cell]; rfl
 have b1 : w2.cell? ⟨Q + 1, 1, none⟩ = some (.int .i64 arr2) := by rw [HBB.out.cell]; rfl
 have a2 : w2.cell? ⟨Q, 2, none⟩ = some (.string (bstr fl1)) := by rw [HAB.out.cell]; rfl
 have b2 : w2.cell? ⟨Q + 1, 2, none⟩ = some (.string (bstr fl2)) := by rw [HBB.out.cell]; rfl
 have a3 : w2.cell? ⟨Q, 3, none⟩ = some (.string (bstr fd1)) := by rw [HAB.out.cell]; rfl
 have b3 : w2.cell? ⟨Q + 1, 3, none⟩ = some (.string (bstr fd2)) := by rw [HBB.out.cell]; rfl
 have a4 : w2.cell? ⟨Q, 4, none⟩ = some (.slice pt1 T1.length ct1) := by rw [HAB.out.cell]; rfl
 have b4 : w2.cell? ⟨Q + 1, 4, none⟩ = some (.slice pt2 T2.length ct2) := by rw [HBB.out.cell]; rfl
 have a5 : w2.cell? ⟨Q, 5, none⟩ = some (.slice ps1 S1.length cs1) := by rw [HAB.out.cell]; rfl
 have b5 : w2.cell? ⟨Q + 1, 5, none⟩ = some (.slice ps2 S2.length cs2) := by rw [HBB.out.cell]; rfl
 have a6 : w2.cell? ⟨Q, 6, none⟩ = some (.slice pb1 B1.length cb1) := by rw [HAB.out.cell]; rfl
 have b6 : w2.cell? ⟨Q + 1, 6, none⟩ = some (.slice pb2 B2.length cb2) := by rw [HBB.out.cell]; rfl
 obtain ⟨nb, hnb⟩ : ∃ nb, (!(decide (id1 = id2) && decide (arr1 = arr2) && (decide (fl1 = fl2) && decide (fd1 = fd2)) && decide (T1.length = T2.length) && decide (S1.length = S2.length) && decide (B1 = B2))) = nb := ⟨_, rfl⟩
 have HNB := Lib.hid hnb
 clear hnb
 go_cut [52] (fun t wx => t = .bool nb ∧ wx = w2)
 case first =>
  by_cases g0 : id1 = id2
  rotate_left
  ·have e : (id1 != id2) = true := by simp [g0]
   have HX := Lib.hid (show nb = true from by rw [← HNB.out]; simp [g0])
   clear g0
   go_wp2_with fail
   go_meet
   exact ⟨by rw [HX.out], rfl⟩
  have eg0 : (id1 != id2) = false := by simp [g0]
  have Eg0 := Lib.hid g0
  clear g0
  by_cases g1 : arr1 = arr2
  rotate_left
  ·have e : (arr1 != arr2) = true := by simp [g1]
   have HX := Lib.hid (show nb = true from by rw [← HNB.out]; simp [g1])
   clear g1
   go_wp2_with fail
   go_meet
   exact ⟨by rw [HX.out], rfl⟩
  have eg1 : (arr1 != arr2) = false := by simp [g1]
  have Eg1 := Lib.hid g1
  clear g1
  by_cases g2 : fl1 = fl2
  rotate_left
  ·have e : ¬ (bstr fl1).toList = (bstr fl2).toList := by rw [bstr_toList, bstr_toList]; exact g2
   have HX := Lib.hid (show nb = true from by rw [← HNB.out]; simp [g2])
   clear g2
   go_wp2_with fail
   go_meet
   exact ⟨by rw [HX.out], rfl⟩
  have eg2 : (bstr fl1).toList = (bstr fl2).toList := by rw [g2]
  have Eg2 := Lib.hid g2
  clear g2
  by_cases g3 : fd1 = fd2
  rotate_left
  ·have e : ¬ (bstr fd1).toList = (bstr fd2).toList := by rw [bstr_toList, bstr_toList]; exact g3
   have HX := Lib.hid (show nb = true from by rw [← HNB.out]; simp [g3])
   clear g3
   go_wp2_with fail
   go_meet
   exact ⟨by rw [HX.out], rfl⟩
  have eg3 : (bstr fd1).toList = (bstr fd2).toList := by rw [g3]
  have Eg3 := Lib.hid g3
  clear g3
  by_cases g4 : T1.length = T2.length
  rotate_left
  ·have e : ((T1.length : Int) != (T2.length : Int)) = true := by simp; omega
   have HX := Lib.hid (show nb = true from by rw [← HNB.out]; simp [g4])
   clear g4
   go_wp2_with fail
   go_meet
   exact ⟨by rw [HX.out], rfl⟩
  have eg4 : ((T1.length : Int) != (T2.length : Int)) = false := by simp [g4]
  have Eg4 := Lib.hid g4
  clear g4
  by_cases g5 : S1.length = S2.length
  rotate_left
  ·have e : ((S1.length : Int) != (S2.length : Int)) = true := by simp; omega
   have HX := Lib.hid (show nb = true from by rw [← HNB.out]; simp [g5])
   clear g5
   go_wp2_with fail
   go_meet
   exact ⟨by rw [HX.out], rfl⟩
  have eg5 : ((S1.length : Int) != (S2.length : Int)) = false := by simp [g5]
  have Eg5 := Lib.hid g5
  clear g5
  by_cases g6 : B1 = B2
  rotate_left
  ·have e : ¬ (bstr B1).toList = (bstr B2).toList := by rw [bstr_toList, bstr_toList]; exact g6
   have HX := Lib.hid (show nb = true from by rw [← HNB.out]; simp [g6])
   clear g6
   go_wp2_with fail
   go_meet
   exact ⟨by rw [HX.out]; simp [e], rfl⟩
  have eg6 : (bstr B1).toList = (bstr B2).toList := by rw [g6]
  have Eg6 := Lib.hid g6
  clear g6
  have HX := Lib.hid (show nb = false from by rw [← HNB.out, Eg0.out, Eg1.out, Eg2.out, Eg3.out, Eg4.out, Eg5.out, Eg6.out]; simp)
  go_wp2_with fail
  go_meet
  exact ⟨by rw [HX.out], rfl⟩
 case rest =>
 obtain ⟨rfl, rfl⟩ := hcut
 clear cA cB a0 a1 a2 a3 a6 b0 b1 b2 b3 b6
 cases nb with
 | true =>
  have HX := Lib.hid (show r = false from by
   rw [← HR.out]
   refine decide_eq_false (fun hh => ?_)
   cases hh
   have := HNB.out
   simp at this)
  go_wp2_with fail
  go_ret
  exact ⟨by rw [HX.out]; rfl, HK.out⟩
 | false =>
 have HE := Lib.hid (show id1 = id2 ∧ arr1 = arr2 ∧ fl1 = fl2 ∧ fd1 = fd2 ∧ T1.length = T2.length ∧ S1.length = S2.length ∧ B1 = B2 from by
  have := HNB.out
  simp only [Bool.not_eq_false', Bool.and_eq_true, decide_eq_true_eq] at this
  obtain ⟨⟨⟨⟨⟨h1, h2⟩, h3, h4⟩, h5⟩, h6⟩, h7⟩ := this
  exact ⟨h1, h2, h3, h4, h5, h6, h7⟩)
 clear HNB
 obtain ⟨w2, rfl⟩ : ∃ z : World, z = wc := ⟨_, rfl⟩
 go_wp2_with fail
 go_loopw [5] (fun iv wr => ∃ i : Nat, iv = .int .i64 (i : Int) ∧ i ≤ T1.length ∧ Hid (T1.take i = T2.take i) ∧ Hid (Keeps w2 wr)) (fun iv _ => T1.length - (intOf iv).toNat)
 case atStart => exact ⟨0, rfl, Nat.zero_le _, Lib.hid (by simp), Lib.hid (Keeps.refl _)⟩
 case round =>
  obtain ⟨i, rfl, hi, HT, HKr⟩ := hrel
  obtain ⟨wz, rfl⟩ : ∃ z : World, z = wr := ⟨_, rfl⟩
  have c1 : wz.cell? ⟨Q, 4, none⟩ = some (.slice pt1 T1.length ct1) := by rw [(HAB.out.keeps HKr.out).cell]; rfl
  have c2 : wz.cell? ⟨Q + 1, 4, none⟩ = some (.slice pt2 T2.length ct2) := by rw [(HBB.out.keeps HKr.out).cell]; rfl
  by_cases hlt : i < T1.length
  ·have hw : IntKind.i64.wrap ((i : Int) + 1) = (i : Int) + 1 := IntWalk.i64_in _ (by omega)
   have hltB : i < T2.length := by have := HE.out.2.2.2.2.1; omega
   obtain ⟨m1, o1, k1, hv1, hg1⟩ := rowS_at tgC_len (HA.out.tos.keeps (HK.out.trans HKr.out)) hlt
   obtain ⟨m2, o2, k2, hv2, hg2⟩ := rowS_at tgC_len (HB.out.tos.keeps (HK.out.trans HKr.out)) hltB
   simp only [Value.slice.injEq] at hv1 hv2
   obtain ⟨rfl, -, rfl⟩ := hv1
   obtain ⟨rfl, -, rfl⟩ := hv2
   simp only at hg1 hg2
   have HN := Lib.hid (show (T1[i] = T2[i] → T1.take (i + 1) = T2.take (i + 1)) ∧ (T1[i] ≠ T2[i] → T1 ≠ T2) from by
    constructor
    ·intro h
     rw [List.take_succ_eq_append_getElem hlt, List.take_succ_eq_append_getElem hltB, HT.out, h]
    ·intro h e
     subst e
     exact h rfl)
   generalize T1[i] = x at *
   generalize T2[i] = y at *
   obtain ⟨x0, x1, x2⟩ := x
   obtain ⟨y0, y1, y2⟩ := y
   have HG1 := Lib.hid (show wz.rangeAt m1 (o1 + i * 3) [.int .i64 x0, .string (bstr x1), .string (bstr x2)] from hg1)
   have HG2 := Lib.hid (show wz.rangeAt m2 (o2 + i * 3) [.int .i64 y0, .string (bstr y1), .string (bstr y2)] from hg2)
   clear hg1 hg2
   have xq0 : wz.cell? ⟨m1, o1 + i * 3, none⟩ = some (.int .i64 x0) := HG1.out 0 _ rfl
   have yq0 : wz.cell? ⟨m2, o2 + i * 3, none⟩ = some (.int .i64 y0) := HG2.out 0 _ rfl
   have xq1 : wz.cell? ⟨m1, o1 + i * 3 + 1, none⟩ = some (.string (bstr x1)) := HG1.out 1 _ rfl
   have yq1 : wz.cell? ⟨m2, o2 + i * 3 + 1, none⟩ = some (.string (bstr y1)) := HG2.out 1 _ rfl
   have xq2 : wz.cell? ⟨m1, o1 + i * 3 + 2, none⟩ = some (.string (bstr x2)) := HG1.out 2 _ rfl
   have yq2 : wz.cell? ⟨m2, o2 + i * 3 + 2, none⟩ = some (.string (bstr y2)) := HG2.out 2 _ rfl
   obtain ⟨nf, hnf⟩ : ∃ b, decide ((⟨x0, x1, x2⟩ : TgP) ≠ ⟨y0, y1, y2⟩) = b := ⟨_, rfl⟩
   have HNF := Lib.hid hnf
   have HX := Lib.hid (fun w' : World => show (if x0 = y0 then if (bstr x1).toList = (bstr y1).toList then if (bstr x2).toList = (bstr y2).toList then Result.ok (Next.value (Value.bool false)) w' else Result.ok (Next.value (Value.bool true)) w' else Result.ok (Next.value (Value.bool true)) w' else Result.ok (Next.value (Value.bool true)) w') = Result.ok (Next.value (Value.bool nf)) w' from by
    rw [← hnf]
    by_cases g0 : x0 = y0 <;> by_cases g1 : x1 = y1 <;> by_cases g2 : x2 = y2 <;> simp [g0, g1, g2, bstr_toList])
   clear hnf HG1 HG2
   have hlt2 : (i : Int) < (T2.length : Int) := by omega
   have hlt1 : (i : Int) < (T1.length : Int) := by omega
   go_upto_region 6 with fail
   refine wp_region_noPanic ?_
   refine wp_region_held_drew (S := fun w' => Keeps wz w') (by kernel_rfl) (((Keeps.refl wz).drew)) (fun _ => ?_)
   have hHeld : Keeps wz (wz).drew := ((Keeps.refl wz).drew)
   generalize World.drew wz = xs at *
   refine tq 0 60 ?_
   refine tq 1 61 ?_ (hy := fun w' hSw => by
    have hSw : Keeps wz w' := hSw
    have h := keep1 hSw c1
    clear hSw
    go_simp
    try with_reducible rfl)
   refine tq 2 62 ?_
   refine tq 3 63 ?_
   refine tq 4 64 ?_ (hy := fun w' hSw => by
    have hSw : Keeps wz w' := hSw
    have h0 := keep1 hSw xq0
    have h1 := keep1 hSw xq1
    have h2 := keep1 hSw xq2
    clear hSw
    go_simp
    try with_reducible rfl)
   refine tq 5 65 ?_
   refine tq 6 66 ?_ (hy := fun w' hSw => by
    have hSw : Keeps wz w' := hSw
    have h := keep1 hSw c2
    clear hSw
    go_simp
    try with_reducible rfl)
   refine tq 7 67 ?_
   refine tq 8 68 ?_
   refine tq 9 69 ?_ (hy := fun w' hSw => by
    have hSw : Keeps wz w' := hSw
    have h0 := keep1 hSw yq0
    have h1 := keep1 hSw yq1
    have h2 := keep1 hSw yq2
    clear hSw
    go_simp
    try with_reducible rfl)
   refine tq 10 70 ?_ (hy := fun w' hSw => by
    have hSw : Keeps wz w' := hSw
    go_simp
    exact HX.out w')
   refine wpAnyH_done (by kernel_rfl) ?_ _
   refine NoPanic.normal ?_
   have HK2 := Lib.hid (HKr.out.trans hHeld)
   clear hHeld c1 c2 xq0 yq0 xq1 yq1 xq2 yq2
   cases nf with
   | true =>
    have HRX := Lib.hid (show r = false from by rw [← HR.out]; exact decide_eq_false (fun hh => by
     simp only [JobP.mk.injEq] at hh
     exact HN.out.2 (of_decide_eq_true HNF.out) hh.2.2.2.2.1))
    go_wp2_with fail
    go_ret
    exact ⟨by rw [HRX.out]; rfl, HK.out.trans HK2.out⟩
   | false =>
    have HT2 := Lib.hid (HN.out.1 (Classical.not_not.1 (of_decide_eq_false HNF.out)))
    go_wp2_with fail
    go_roundw
    case rel => exact ⟨i + 1, by simp, by omega, HT2, HK2⟩
    case measure =>
     simp only [intOf]
     omega
  ·have hie : i = T1.length := by omega
   have HXE := Lib.hid (show T1 = T2 from by
    have := HT.out
    rwa [List.take_of_length_le (by omega), List.take_of_length_le (by have := HE.out.2.2.2.2.1; omega)] at this)
   subst hie
   have hnl : ¬ (T1.length : Int) < (T1.length : Int) := by omega
   clear hlt
   go_wp2_with fail
   clear c1 c2
   have HK := Lib.hid (HK.out.trans HKr.out)
   have HAB := Lib.hid (HAB.out.keeps HKr.out)
   have HBB := Lib.hid (HBB.out.keeps HKr.out)
   obtain ⟨w4, rfl⟩ : ∃ z : World, z = wz := ⟨_, rfl⟩
   have HTE := Lib.hid HXE.out
   clear HXE HT HKr a4 b4 a5 b5
   go_loopw [6] (fun iv wr => ∃ i : Nat, iv = .int .i64 (i : Int) ∧ i ≤ S1.length ∧ Hid (S1.take i = S2.take i) ∧ Hid (Keeps w4 wr)) (fun iv _ => S1.length - (intOf iv).toNat)
   case atStart => exact ⟨0, rfl, Nat.zero_le _, Lib.hid (by simp), Lib.hid (Keeps.refl _)⟩
   case round =>
    obtain ⟨i, rfl, hi, HT, HKr⟩ := hrel
    obtain ⟨wz, rfl⟩ : ∃ z : World, z = wr := ⟨_, rfl⟩
    have c1 : wz.cell? ⟨Q, 5, none⟩ = some (.slice ps1 S1.length cs1) := by rw [(HAB.out.keeps HKr.out).cell]; rfl
    have c2 : wz.cell? ⟨Q + 1, 5, none⟩ = some (.slice ps2 S2.length cs2) := by rw [(HBB.out.keeps HKr.out).cell]; rfl
    by_cases hlt : i < S1.length
    ·have hw : IntKind.i64.wrap ((i : Int) + 1) = (i : Int) + 1 := IntWalk.i64_in _ (by omega)
     have hltB : i < S2.length := by have := HE.out.2.2.2.2.2.1; omega
     obtain ⟨m1, o1, k1, hv1, hg1⟩ := rowS_at stC_len (HA.out.st.keeps (HK.out.trans HKr.out)) hlt
     obtain ⟨m2, o2, k2, hv2, hg2⟩ := rowS_at stC_len (HB.out.st.keeps (HK.out.trans HKr.out)) hltB
     simp only [Value.slice.injEq] at hv1 hv2
     obtain ⟨rfl, -, rfl⟩ := hv1
     obtain ⟨rfl, -, rfl⟩ := hv2
     simp only at hg1 hg2
     have HN := Lib.hid (show (S1[i] = S2[i] → S1.take (i + 1) = S2.take (i + 1)) ∧ (S1[i] ≠ S2[i] → S1 ≠ S2) from by
      constructor
      ·intro h
       rw [List.take_succ_eq_append_getElem hlt, List.take_succ_eq_append_getElem hltB, HT.out, h]
      ·intro h e
       subst e
       exact h rfl)
     generalize S1[i] = x at *
     generalize S2[i] = y at *
     obtain ⟨x0, x1, x2, x3⟩ := x
     obtain ⟨y0, y1, y2, y3⟩ := y
     have HG1 := Lib.hid (show wz.rangeAt m1 (o1 + i * 4) [.int .i64 x0, .int .i64 x1, .int .i64 x2, .int .i64 x3] from hg1)
     have HG2 := Lib.hid (show wz.rangeAt m2 (o2 + i * 4) [.int .i64 y0, .int .i64 y1, .int .i64 y2, .int .i64 y3] from hg2)
     clear hg1 hg2
     have xq0 : wz.cell? ⟨m1, o1 + i * 4, none⟩ = some (.int .i64 x0) := HG1.out 0 _ rfl
     have yq0 : wz.cell? ⟨m2, o2 + i * 4, none⟩ = some (.int .i64 y0) := HG2.out 0 _ rfl
     have xq1 : wz.cell? ⟨m1, o1 + i * 4 + 1, none⟩ = some (.int .i64 x1) := HG1.out 1 _ rfl
     have yq1 : wz.cell? ⟨m2, o2 + i * 4 + 1, none⟩ = some (.int .i64 y1) := HG2.out 1 _ rfl
     have xq2 : wz.cell? ⟨m1, o1 + i * 4 + 2, none⟩ = some (.int .i64 x2) := HG1.out 2 _ rfl
     have yq2 : wz.cell? ⟨m2, o2 + i * 4 + 2, none⟩ = some (.int .i64 y2) := HG2.out 2 _ rfl
     have xq3 : wz.cell? ⟨m1, o1 + i * 4 + 3, none⟩ = some (.int .i64 x3) := HG1.out 3 _ rfl
     have yq3 : wz.cell? ⟨m2, o2 + i * 4 + 3, none⟩ = some (.int .i64 y3) := HG2.out 3 _ rfl
     obtain ⟨nf, hnf⟩ : ∃ b, decide ((⟨x0, x1, x2, x3⟩ : StP) ≠ ⟨y0, y1, y2, y3⟩) = b := ⟨_, rfl⟩
     have HNF := Lib.hid hnf
     have HX := Lib.hid (fun w' : World => show (if x0 = y0 then if x1 = y1 then if x2 = y2 then if x3 = y3 then Result.ok (Next.value (Value.bool false)) w' else Result.ok (Next.value (Value.bool true)) w' else Result.ok (Next.value (Value.bool true)) w' else Result.ok (Next.value (Value.bool true)) w' else Result.ok (Next.value (Value.bool true)) w') = Result.ok (Next.value (Value.bool nf)) w' from by
      rw [← hnf]
      by_cases g0 : x0 = y0 <;> by_cases g1 : x1 = y1 <;> by_cases g2 : x2 = y2 <;> by_cases g3 : x3 = y3 <;> simp [g0, g1, g2, g3, bstr_toList])
     clear hnf HG1 HG2
     have hlt2 : (i : Int) < (S2.length : Int) := by omega
     have hlt1 : (i : Int) < (S1.length : Int) := by omega
     go_upto_region 11 with fail
     refine wp_region_noPanic ?_
     refine wp_region_held_drew (S := fun w' => Keeps wz w') (by kernel_rfl) (((Keeps.refl wz).drew)) (fun _ => ?_)
     have hHeld : Keeps wz (wz).drew := ((Keeps.refl wz).drew)
     generalize World.drew wz = xs at *
     refine tq 0 78 ?_
     refine tq 1 79 ?_ (hy := fun w' hSw => by
      have hSw : Keeps wz w' := hSw
      have h := keep1 hSw c1
      clear hSw
      go_simp
      try with_reducible rfl)
     refine tq 2 80 ?_
     refine tq 3 81 ?_
     refine tq 4 82 ?_ (hy := fun w' hSw => by
      have hSw : Keeps wz w' := hSw
      have h0 := keep1 hSw xq0
      have h1 := keep1 hSw xq1
      have h2 := keep1 hSw xq2
      have h3 := keep1 hSw xq3
      clear hSw
      go_simp
      try with_reducible rfl)
     refine tq 5 83 ?_
     refine tq 6 84 ?_ (hy := fun w' hSw => by
      have hSw : Keeps wz w' := hSw
      have h := keep1 hSw c2
      clear hSw
      go_simp
      try with_reducible rfl)
     refine tq 7 85 ?_
     refine tq 8 86 ?_
     refine tq 9 87 ?_ (hy := fun w' hSw => by
      have hSw : Keeps wz w' := hSw
      have h0 := keep1 hSw yq0
      have h1 := keep1 hSw yq1
      have h2 := keep1 hSw yq2
      have h3 := keep1 hSw yq3
      clear hSw
      go_simp
      try with_reducible rfl)
     refine tq 10 88 ?_ (hy := fun w' hSw => by
      have hSw : Keeps wz w' := hSw
      go_simp
      exact HX.out w')
     refine wpAnyH_done (by kernel_rfl) ?_ _
     refine NoPanic.normal ?_
     have HK2 := Lib.hid (HKr.out.trans hHeld)
     clear hHeld c1 c2 xq0 yq0 xq1 yq1 xq2 yq2 xq3 yq3
     cases nf with
     | true =>
      have HRX := Lib.hid (show r = false from by rw [← HR.out]; exact decide_eq_false (fun hh => by
       simp only [JobP.mk.injEq] at hh
       exact HN.out.2 (of_decide_eq_true HNF.out) hh.2.2.2.2.2.1))
      go_wp2_with fail
      go_ret
      exact ⟨by rw [HRX.out]; rfl, HK.out.trans HK2.out⟩
     | false =>
      have HT2 := Lib.hid (HN.out.1 (Classical.not_not.1 (of_decide_eq_false HNF.out)))
      go_wp2_with fail
      go_roundw
      case rel => exact ⟨i + 1, by simp, by omega, HT2, HK2⟩
      case measure =>
       simp only [intOf]
       omega
    ·have hie : i = S1.length := by omega
     have HXE := Lib.hid (show S1 = S2 from by
      have := HT.out
      rwa [List.take_of_length_le (by omega), List.take_of_length_le (by have := HE.out.2.2.2.2.2.1; omega)] at this)
     subst hie
     have hnl : ¬ (S1.length : Int) < (S1.length : Int) := by omega
     have HRX := Lib.hid (show r = true from by rw [← HR.out]; exact decide_eq_true (by rw [HE.out.1, HE.out.2.1, HE.out.2.2.1, HE.out.2.2.2.1, HTE.out, HXE.out, HE.out.2.2.2.2.2.2]))
     go_wp2_with fail
     go_ret
     exact ⟨by rw [HRX.out]; rfl, HK.out.trans HKr.out⟩
end Env
end Go.Proofs.Ytkbibhlfehamgaa

/- ref15.Light: which jobs are short. -/
namespace Go.Proofs.Ytkbibhlfehamgaa
open Go.RowKit
namespace Env
open Adr (Str)
structure LightP (j : JobP) : Prop where
 tos : j.tos.length ≤ 30
 st : j.st.length ≤ 30
 body : j.body.length ≤ 1000
 fl : j.fl.length ≤ 100
 fd : j.fd.length ≤ 100
 all : ∀ t ∈ j.tos, t.l.length ≤ 100 ∧ t.d.length ≤ 100
def LightRet (w : World) (j : JobP) (e : Ending) (w' : World) : Prop := ∃ b, e = .returned (.bool b) ∧ (b = true → LightP j) ∧ Keeps w w'
theorem light_no {w w' : World} {j : JobP} (k : Keeps w w') : LightRet w j (.returned (.bool false)) w' := ⟨false, rfl, (fun h => by cases h), k⟩
set_option maxRecDepth 100000 in
set_option maxHeartbeats 2000000 in
theorem light_any (w : World) (j : JobP) (vt vs vb : Value) (h : JobAt w j vt vs vb) : Calls Try.prog 11 #[.agg (jobA j vt vs vb)] w (LightRet w j) := by
 obtain ⟨id, arr, fl, fd, T, S, B⟩ := j
 obtain ⟨pt, ct, rfl, -, -⟩ := h.tos.form
 obtain ⟨ps, cs, rfl, -, -⟩ := h.st.form
 obtain ⟨pb, cb, rfl, -, -⟩ := h.body.formB
 have HA := Lib.hid h
 have HK := Lib.hid ((Keeps.refl w).alloc (.cells (jobA ⟨id, arr, fl, fd, T, S, B⟩ (.slice pt T.length ct) (.slice ps S.length cs) (.slice pb B.length cb)) 29))
 have HB := Lib.hid (Blk.new w 29 (jobA ⟨id, arr, fl, fd, T, S, B⟩ (.slice pt T.length ct) (.slice ps S.length cs) (.slice pb B.length cb)) rfl)
 have hsl := bstr_size fl
 have hsd := bstr_size fd
 clear h
 go_enter Try.func11, Try.ntmps11
 go_upto_region 1 with fail
 generalize w.alloc (.cells (jobA ⟨id, arr, fl, fd, T, S, B⟩ (.slice pt T.length ct) (.slice ps S.length cs) (.slice pb B.length cb)) 29) = w2 at *
 generalize w.heap.size = g at *
 have c2 : w2.cell? ⟨g, 2, none⟩ = some (.string (bstr fl)) := by rw [HB.out.cell]; rfl
 have c3 : w2.cell? ⟨g, 3, none⟩ = some (.string (bstr fd)) := by rw [HB.out.cell]; rfl
 have c4 : w2.cell? ⟨g, 4, none⟩ = some (.slice pt T.length ct) := by rw [HB.out.cell]; rfl
 have c5 : w2.cell? ⟨g, 5, none⟩ = some (.slice ps S.length cs) := by rw [HB.out.cell]; rfl
 have c6 : w2.cell? ⟨g, 6, none⟩ = some (.slice pb B.length cb) := by rw [HB.out.cell]; rfl
 by_cases h1 : 30 < T.length
 ·have e1 : decide ((30 : Int) < (T.length : Int)) = true := decide_eq_true (by omega)
  go_wp2_with fail
  go_ret
  exact light_no HK.out
 have e1 : decide ((30 : Int) < (T.length : Int)) = false := decide_eq_false (by omega)
 have H1 := Lib.hid h1
 clear h1
 by_cases h2 : 30 < S.length
 ·have e2 : decide ((30 : Int) < (S.length : Int)) = true := decide_eq_true (by omega)
  go_wp2_with fail
  go_ret
  exact light_no HK.out
 have e2 : decide ((30 : Int) < (S.length : Int)) = false := decide_eq_false (by omega)
 have H2 := Lib.hid h2
 clear h2
 by_cases h3 : 1000 < B.length
 ·have e3 : decide ((1000 : Int) < (B.length : Int)) = true := decide_eq_true (by omega)
  go_wp2_with fail
  go_ret
  exact light_no HK.out
 have e3 : decide ((1000 : Int) < (B.length : Int)) = false := decide_eq_false (by omega)
 have H3 := Lib.hid h3
 clear h3
 by_cases h4 : 100 < fl.length
 ·have e4 : decide ((100 : Int) < (fl.length : Int)) = true := decide_eq_true (by omega)
  go_wp2_with fail
  go_ret
  exact light_no HK.out
 have e4 : decide ((100 : Int) < (fl.length : Int)) = false := decide_eq_false (by omega)
 have H4 := Lib.hid h4
 clear h4
 by_cases h5 : 100 < fd.length
 ·have e5 : decide ((100 : Int) < (fd.length : Int)) = true := decide_eq_true (by omega)
  go_wp2_with fail
  go_ret
  exact light_no HK.out
 have e5 : decide ((100 : Int) < (fd.length : Int)) = false := decide_eq_false (by omega)
 have H5 := Lib.hid h5
 clear h5
 go_wp2_with fail
 clear e1 e2 e3 e4 e5 c2 c3 c5 c6 hsl hsd
 go_loopw [3] (fun iv wr => ∃ i : Nat, iv = .int .i64 (i : Int) ∧ i ≤ T.length ∧ Hid (∀ t ∈ T.take i, t.l.length ≤ 100 ∧ t.d.length ≤ 100) ∧ w2 = wr) (fun iv _ => T.length - (intOf iv).toNat)
 case atStart => exact ⟨0, rfl, Nat.zero_le _, Lib.hid (by simp), rfl⟩
 case round =>
  obtain ⟨i, rfl, hi, HT, hww⟩ := hrel
  subst hww
  by_cases hlt : i < T.length
  ·have hw : IntKind.i64.wrap ((i : Int) + 1) = (i : Int) + 1 := IntWalk.i64_in _ (by have := H1.out; omega)
   obtain ⟨m1, o1, k1, hv1, hg1⟩ := rowS_at tgC_len (HA.out.tos.keeps HK.out) hlt
   simp only [Value.slice.injEq] at hv1
   obtain ⟨rfl, -, rfl⟩ := hv1
   simp only at hg1
   have HN := Lib.hid (show (T[i].l.length ≤ 100 ∧ T[i].d.length ≤ 100) → ∀ t ∈ T.take (i + 1), t.l.length ≤ 100 ∧ t.d.length ≤ 100 from fun h t ht => by
    rw [List.take_succ_eq_append_getElem hlt] at ht
    rcases List.mem_append.1 ht with ht | ht
    ·exact HT.out t ht
    ·simp only [List.mem_singleton] at ht
     subst ht
     exact h)
   generalize T[i] = t at *
   obtain ⟨u, l, d⟩ := t
   have x1 : w2.cell? ⟨m1, o1 + i * 3 + 1, none⟩ = some (.string (bstr l)) := hg1 1 _ rfl
   have x2 : w2.cell? ⟨m1, o1 + i * 3 + 2, none⟩ = some (.string (bstr d)) := hg1 2 _ rfl
   simp only at HN
   have hsl := bstr_size l
   have hsd := bstr_size d
   clear hg1
   by_cases h1 : 100 < l.length
   ·have e1 : decide ((100 : Int) < (l.length : Int)) = true := decide_eq_true (by omega)
    go_wp2_with fail
    go_ret
    exact light_no HK.out
   ·have e1 : decide ((100 : Int) < (l.length : Int)) = false := decide_eq_false (by omega)
    by_cases h2 : 100 < d.length
    ·have e2 : decide ((100 : Int) < (d.length : Int)) = true := decide_eq_true (by omega)
     go_wp2_with fail
     go_ret
     exact light_no HK.out
    ·have e2 : decide ((100 : Int) < (d.length : Int)) = false := decide_eq_false (by omega)
     have HN2 := Lib.hid (HN.out ⟨by omega, by omega⟩)
     clear h1 h2 HN
     go_wp2_with fail
     go_roundw
     case rel => exact ⟨i + 1, by simp, by omega, HN2, trivial⟩
     case measure =>
      simp only [intOf]
      omega
  ·have HX := Lib.hid (show ∀ t ∈ T, t.l.length ≤ 100 ∧ t.d.length ≤ 100 from by
    have := HT.out
    rwa [List.take_of_length_le (by omega)] at this)
   go_wp2_with fail
   go_ret
   exact ⟨true, rfl, fun _ => ⟨by have := H1.out; show T.length ≤ 30; omega, by have := H2.out; show S.length ≤ 30; omega, by have := H3.out; show B.length ≤ 1000; omega, by have := H4.out; show fl.length ≤ 100; omega, by have := H5.out; show fd.length ≤ 100; omega, HX.out⟩, HK.out⟩
end Env
end Go.Proofs.Ytkbibhlfehamgaa
