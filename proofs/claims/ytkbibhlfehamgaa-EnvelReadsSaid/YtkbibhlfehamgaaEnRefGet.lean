/- ref15.Read. Printed by gen_enrget.py. -/
import Derived.Test.YtkbibhlfehamgaaK27
import Derived.Test.YtkbibhlfehamgaaEnGet
import Derived.Test.YtkbibhlfehamgaaK13
import Derived.Test.YtkbibhlfehamgaaK30
namespace Go.Proofs.Ytkbibhlfehamgaa
open Go.RowKit
namespace Env
open Adr (Str)
open Frm (ownsRow_keeps ownsRow_mods ownsRow_ne ownsRow_form ownsRow_ty rowS_lit Fr1 frC rowR rRow_any RRowDid)
open Txl (FrmsR frM rowR_all lenS lenS_nn lenS_cons)
abbrev gotA (j : JobP) (vt vs vb : Value) (u e : Int) : Array Value := #[.int .i64 j.id, .int .i64 j.arr, .string (bstr j.fl), .string (bstr j.fd), vt, vs, vb, .int .i64 u, .int .i64 e]
def RReadRet (W : World) (r : JobP × Int × Int) (e : Ending) (w' : World) : Prop :=
 ∃ vt vs vb, e = .returned (.agg (gotA r.1 vt vs vb r.2.1 r.2.2)) ∧ JobAt w' r.1 vt vs vb ∧ Keeps W w'
set_option maxRecDepth 100000 in
set_option maxHeartbeats 4000000 in
theorem rread_any (v : Value) (l : List UInt8) (w : World) (hr : Row w v (l.map u8v)) (hl : l.length ≤ 1000000) : Calls Try.prog 8 #[v] w (RReadRet w (readR l)) := by
 obtain ⟨p, cap, rfl, hc1, hc2⟩ := hr.formB
 have HX := Lib.hid (Blk.new w 34 gotZ rfl)
 have HK := Lib.hid ((Keeps.refl w).alloc (.cells gotZ 34))
 have HRO := Lib.hid (rRow_any _ l _ (hr.keeps HK.out) (by omega))
 obtain ⟨ha1, ha2, ha3⟩ := rowR_all l
 have HA := Lib.hid ha1
 have HRF := Lib.hid (show readR l = readF (rowR l).1 from rfl)
 clear hr ha1
 generalize readR l = R at *
 generalize (rowR l).1 = fs0 at *
 unfold gotZ at HX HK HRO
 go_enter Try.func8, Try.ntmps8
 go_wp2_with fail
 unfold RRowDid at HRO
 refine HRO.out.mono ?_
 rintro e w1 ⟨v1, F, rfl, hf, hfe, hk1⟩
 subst hfe
 have HF1 := Lib.hid (show FrmsR w1 (w.alloc (.cells #[.int .i64 0, .int .i64 0, .string (bstr []), .string (bstr []), .slice none 0 0, .slice none 0 0, .slice none 0 0, .int .i64 0, .int .i64 0] 34)).heap.size v1 F from ⟨rowS_own hf.own, hf.pay, fun x hx => by have := (HA.out x.1 (List.mem_map.2 ⟨x, hx, rfl⟩)).2; omega, fun b off n cap hv hn => by
  rcases hf.own.2 with ⟨h, _⟩ | ⟨g, cp, cur, h, hb, hgg, _⟩
  ·rw [hv] at h; simp at h
  ·rw [hv] at h
   simp only [Value.slice.injEq, Option.some.injEq, Addr.mk.injEq] at h
   obtain ⟨⟨rfl, -, -⟩, -, -⟩ := h
   exact ⟨_, _, hgg⟩⟩)
 have HX1 := Lib.hid (HX.out.keeps hk1)
 have HK1 := Lib.hid (HK.out.trans hk1)
 obtain ⟨p1, c1, rfl, -, -⟩ := FrmsR.form HF1.out
 generalize (w.alloc (.cells #[.int .i64 0, .int .i64 0, .string (bstr []), .string (bstr []), .slice none 0 0, .slice none 0 0, .slice none 0 0, .int .i64 0, .int .i64 0] 34)).heap.size = base at *
 clear hf hk1 HRO HX HK
 rw [List.length_map] at ha3
 generalize hRb : w.heap.size = Rb at *
 have HRW := Lib.hid (show w.heap.size ≤ Rb by omega)
 clear hRb
 generalize (rowR l).2.1 = ru at *
 generalize (rowR l).2.2 = re at *
 have hfd : ∀ w, (Instr.field 59 (.agg #[.slice p1 F.length c1, .int .i64 (ru : Int), .int .i64 re]) 0).run Try.prog w = .ok (.slice p1 F.length c1) w := fun w => by rfl
 have HFR : Hid (∀ j (hj : j < F.length), ∃ b off, p1 = some ⟨b, off, none⟩ ∧ w1.rangeAt b (off + j * 4) (frC F[j])) := Lib.hid (fun j hj => by
  obtain ⟨b, off, cap', hv, hrg⟩ := HF1.out.at_ hj
  simp only [Value.slice.injEq] at hv
  exact ⟨b, off, hv.1, hrg⟩)
 go_upto_region 2 with fail
 obtain ⟨bad, hbad⟩ : ∃ b, (!good1 (F.map (·.1))) = b := ⟨_, rfl⟩
 have HBAD := Lib.hid hbad
 clear hbad
 go_cut [43] (fun t wx => t = .bool bad ∧ wx = w1)
 case first =>
  as_aux_lemma =>
  by_cases h2 : F.length < 2
  ·have e1 : decide ((F.length : Int) < 2) = true := decide_eq_true (by omega)
   have e2 : decide (F.length < 2) = true := decide_eq_true h2
   have HB := Lib.hid (show bad = true from by rw [← HBAD.out, good1_short (by rw [List.length_map]; exact h2)]; rfl)
   clear h2
   go_wp2_with fail
   go_meet
   exact ⟨by rw [HB.out], rfl⟩
  ·have e1 : decide ((F.length : Int) < 2) = false := decide_eq_false (by omega)
   have e2 : decide (F.length < 2) = false := decide_eq_false h2
   have hl0 : 0 < F.length := by omega
   have hl1 : 1 < F.length := by omega
   obtain ⟨b, off, rfl, h0⟩ := HFR.out 0 hl0
   obtain ⟨b', off', hp, h1⟩ := HFR.out 1 hl1
   simp only [Option.some.injEq, Addr.mk.injEq] at hp
   obtain ⟨rfl, rfl, -⟩ := hp
   have HB := Lib.hid (show bad = !(decide (F[0].1.kind = 16) && decide (F[1].1.kind = 17) && decide (F[1].1.pay.length ≤ 32768)) from by
    rw [← HBAD.out, good1_two (by rw [List.length_map]; omega)]
    simp)
   have hpay := HF1.out.pay F[1] (List.getElem_mem hl1)
   generalize F[0] = x0 at *
   generalize F[1] = x1 at *
   obtain ⟨⟨a0, n0, k0, y0⟩, z0⟩ := x0
   obtain ⟨⟨a1, n1, k1, y1⟩, z1⟩ := x1
   obtain ⟨pz, cz, hz, -, -⟩ := hpay.form
   simp only [List.length_map] at hz HB
   subst hz
   have d0 : w1.cell? ⟨b, off + 2, none⟩ = some (.int .i64 k0) := h0 2 _ rfl
   have d1 : w1.cell? ⟨b, off + 4 + 2, none⟩ = some (.int .i64 k1) := by have := h1 2 _ rfl; rwa [Nat.one_mul] at this
   have d2 : w1.cell? ⟨b, off + 4 + 3, none⟩ = some (.slice pz y1.length cz) := by have := h1 3 _ rfl; rwa [Nat.one_mul] at this
   clear h0 h1 hpay h2
   by_cases hk0 : k0 = 16
   ·have f0 : (k0 != 16) = false := by simp [hk0]
    by_cases hk1 : k1 = 17
    ·have f1 : (k1 != 17) = false := by simp [hk1]
     by_cases hy : y1.length ≤ 32768
     ·have f2 : decide ((32768 : Int) < (y1.length : Int)) = false := decide_eq_false (by omega)
      have f3 : decide (32768 < y1.length) = false := decide_eq_false (by omega)
      have HB2 := Lib.hid (show bad = false from by rw [HB.out]; simp [hk0, hk1, hy])
      clear hk0 hk1 hy
      go_wp2_with fail
      go_meet
      exact ⟨by rw [HB2.out], rfl⟩
     ·have f2 : decide ((32768 : Int) < (y1.length : Int)) = true := decide_eq_true (by omega)
      have f3 : decide (32768 < y1.length) = true := decide_eq_true (by omega)
      have HB2 := Lib.hid (show bad = true from by rw [HB.out]; simp [hy])
      clear hk0 hk1 hy
      go_wp2_with fail
      go_meet
      exact ⟨by rw [HB2.out], rfl⟩
    ·have f1 : (k1 != 17) = true := by simp [hk1]
     have HB2 := Lib.hid (show bad = true from by rw [HB.out]; simp [hk1])
     clear hk0 hk1
     go_wp2_with fail
     go_meet
     exact ⟨by rw [HB2.out], rfl⟩
   ·have f0 : (k0 != 16) = true := by simp [hk0]
    have HB2 := Lib.hid (show bad = true from by rw [HB.out]; simp [hk0])
    clear hk0
    go_wp2_with fail
    go_meet
    exact ⟨by rw [HB2.out], rfl⟩
 case rest =>
 obtain ⟨rfl, rfl⟩ := hcut
 clear hfd
 have HG1 := Lib.hid (show good1 (F.map (·.1)) = !bad from by rw [← HBAD.out]; simp)
 clear HBAD
 cases bad with
 | true =>
  have HR := Lib.hid (show R = (noJob, 0, 12) from by rw [HRF.out]; exact readF_bad HG1.out)
  go_wp2_with (refine wpList_st (ds := #[.int .i64 0, .int .i64 0, .string (bstr []), .string (bstr []), .slice none 0 0, .slice none 0 0, .slice none 0 0, .int .i64 0, .int .i64 12]) rfl gotM HX1.out rfl (by simp [Value.oneCell']) _ _ rfl rfl rfl rfl ?_; intro yF hBF hMF; have FF := Lib.hid (show yF.cell? ⟨Rb, 0, none⟩ = some (.int .i64 0) ∧ yF.cell? ⟨Rb, 1, none⟩ = some (.int .i64 0) ∧ yF.cell? ⟨Rb, 2, none⟩ = some (.string (bstr [])) ∧ yF.cell? ⟨Rb, 3, none⟩ = some (.string (bstr [])) ∧ yF.cell? ⟨Rb, 4, none⟩ = some (.slice none 0 0) ∧ yF.cell? ⟨Rb, 5, none⟩ = some (.slice none 0 0) ∧ yF.cell? ⟨Rb, 6, none⟩ = some (.slice none 0 0) ∧ yF.cell? ⟨Rb, 7, none⟩ = some (.int .i64 0) ∧ yF.cell? ⟨Rb, 8, none⟩ = some (.int .i64 12) from ⟨by rw [hBF.cell]; rfl, by rw [hBF.cell]; rfl, by rw [hBF.cell]; rfl, by rw [hBF.cell]; rfl, by rw [hBF.cell]; rfl, by rw [hBF.cell]; rfl, by rw [hBF.cell]; rfl, by rw [hBF.cell]; rfl, by rw [hBF.cell]; rfl⟩); have HKF := Lib.hid (hMF.keeps HK1.out (fun x hx => by rw [hx]; exact HRW.out)); clear hBF hMF)
  exact bodyPost_ret (v := .agg #[.int .i64 0, .int .i64 0, .string (bstr []), .string (bstr []), .slice none 0 0, .slice none 0 0, .slice none 0 0, .int .i64 0, .int .i64 12]) (by simp [results, Try.results8, go_sem, FF.out.1, FF.out.2.1, FF.out.2.2.1, FF.out.2.2.2.1, FF.out.2.2.2.2.1, FF.out.2.2.2.2.2.1, FF.out.2.2.2.2.2.2.1, FF.out.2.2.2.2.2.2.2.1, FF.out.2.2.2.2.2.2.2.2]) rfl ⟨_, _, _, by rw [HR.out]; rfl, by rw [HR.out]; exact job0_at _, HKF.out⟩
 | false =>
 have hl2 : 2 ≤ F.length := by have := good1_len HG1.out; rwa [List.length_map] at this
 have hl0 : 0 < F.length := by omega
 have hl1 : 1 < F.length := by omega
 obtain ⟨b, off, rfl, h0⟩ := HFR.out 0 hl0
 obtain ⟨b', off', hp, h1⟩ := HFR.out 1 hl1
 simp only [Option.some.injEq, Addr.mk.injEq] at hp
 obtain ⟨rfl, rfl, -⟩ := hp
 have HR2 := Lib.hid (show R = (if envOk (envR mT m63 m63 F[0].1.pay) F[0].1.pay = true then
   let j := (envR mT m63 m63 F[0].1.pay).1
   let s := stepsR2 j.tos.length ((F.map (·.1)).drop 2) (List.replicate j.tos.length (freshS j.arr))
   ({ j with st := s.1, body := F[1].1.pay }, F[0].1.len + F[1].1.len + s.2, 0)
  else (noJob, 0, 12)) from by
  have h3 : 2 ≤ (F.map (·.1)).length := by rw [List.length_map]; exact hl2
  have h4 := HG1.out
  rw [good1_two h3] at h4
  rw [HRF.out, readF_two h3]
  simp only [List.getElem_map, Bool.not_false, Bool.and_eq_true, decide_eq_true_eq] at h4 ⊢
  obtain ⟨e1, e2⟩ := env_two F[0].1.pay
  by_cases h5 : envOk (envR 100 capId capT F[0].1.pay) F[0].1.pay = true
  ·rw [if_pos ⟨h4.1.1, h4.1.2, h4.2, h5⟩, if_pos (by rw [e1]; exact h5), e2 h5]
   simp only [steps_two]
  ·rw [if_neg (fun h => h5 h.2.2.2), if_neg (by rw [e1]; exact h5)])
 have hpay0 := HF1.out.pay F[0] (List.getElem_mem hl0)
 have hpay1 := HF1.out.pay F[1] (List.getElem_mem hl1)
 have hpl0 := HF1.out.len F[0] (List.getElem_mem hl0)
 have HLN := Lib.hid (show 0 ≤ F[0].1.len ∧ 0 ≤ F[1].1.len ∧ F[0].1.len + F[1].1.len + lenS ((F.map (·.1)).drop 2) ≤ (l.length : Int) from by
  refine ⟨(HA.out _ (List.mem_map.2 ⟨F[0], List.getElem_mem hl0, rfl⟩)).1, (HA.out _ (List.mem_map.2 ⟨F[1], List.getElem_mem hl1, rfl⟩)).1, ?_⟩
  have e : F.map (·.1) = F[0].1 :: F[1].1 :: (F.map (·.1)).drop 2 := by
   rw [show (F.map (·.1)).drop 2 = ((F.map (·.1)).drop 0).drop 2 from by simp]
   have h3 : 2 ≤ (F.map (·.1)).length := by rw [List.length_map]; exact hl2
   generalize hm : F.map (·.1) = m at *
   have e0 : F[0].1 = m[0] := by simp [← hm]
   have e1 : F[1].1 = m[1] := by simp [← hm]
   rw [e0, e1]
   match m, h3 with
   | [], h => simp at h
   | [_], h => simp at h
   | _ :: _ :: _, _ => rfl
  rw [e, lenS_cons, lenS_cons] at ha2
  omega)
 have HYL := Lib.hid (show F[0].1.pay.length ≤ l.length from (HA.out _ (List.mem_map.2 ⟨F[0], List.getElem_mem hl0, rfl⟩)).2)
 have HYA := Lib.hid (show ∀ x ∈ F, x.1.pay.length ≤ l.length from fun x hx => (HA.out _ (List.mem_map.2 ⟨x, hx, rfl⟩)).2)
 have HNN := Lib.hid (fun (f : Fr1) (hf : f ∈ (F.map (·.1)).drop 2) => (HA.out f (List.mem_of_mem_drop hf)).1)
 generalize hx0 : F[0] = x0 at *
 generalize hx1 : F[1] = x1 at *
 obtain ⟨⟨a0, n0, k0, y0⟩, z0⟩ := x0
 obtain ⟨⟨a1, n1, k1, y1⟩, z1⟩ := x1
 have HXE := Lib.hid (And.intro hx0 hx1)
 clear hx0 hx1
 obtain ⟨pz0, cz0, hz, -, -⟩ := hpay0.form
 simp only [List.length_map] at hz
 subst hz
 obtain ⟨pz1, cz1, hz, -, -⟩ := hpay1.form
 simp only [List.length_map] at hz
 subst hz
 simp only at HR2 HLN hpl0
 have d3 : wc.cell? ⟨b, off + 3, none⟩ = some (.slice pz0 y0.length cz0) := h0 3 _ rfl
 have HP0 := Lib.hid hpay0
 clear h0 h1 hpay1 hpay0 HFR HG1 HA HRF ha2
 have hid := uR_lt y0 8 (by omega) (some 0)
 generalize hxi : (uR y0 8 (some 0)).1 = xi at *
 generalize hsi : (uR y0 8 (some 0)).2 = si at *
 have har := uR_lt y0 8 (by omega) si
 generalize hxa : (uR y0 8 si).1 = xa at *
 generalize hsa : (uR y0 8 si).2 = sa at *
 generalize hxf : (tR y0 mT sa).1 = xf at *
 generalize hsf : (tR y0 mT sa).2 = sf at *
 generalize hxd : (tR y0 mT sf).1 = xd at *
 generalize hsd : (tR y0 mT sf).2 = sd at *
 have hcn := uR_lt y0 1 (by omega) sd
 generalize hxn : (uR y0 1 sd).1 = xn at *
 generalize hsn : (uR y0 1 sd).2 = sn at *
 simp only [Nat.reducePow] at hid har hcn
 have HE := Lib.hid (And.intro hxi (And.intro hsi (And.intro hxa (And.intro hsa (And.intro hxf (And.intro hsf (And.intro hxd (And.intro hsd (And.intro hxn hsn)))))))))
 obtain ⟨ci, hci⟩ : ∃ c, capI m63 xi = c := ⟨_, rfl⟩
 obtain ⟨ca, hca⟩ : ∃ c, capI m63 xa = c := ⟨_, rfl⟩
 have hcap : capI m63 xn = (xn : Int) := by unfold capI m63; rw [if_pos (by omega)]
 have HCP := Lib.hid (And.intro hci (And.intro hca hcap))
 have HEN := Lib.hid (show envR mT m63 m63 y0 = (⟨ci, ca, xf, xd, (tgsR y0 mT xn sn).1, [], []⟩, (tgsR y0 mT xn sn).2) from by
  unfold envR headR
  simp only [hxi, hsi, hxa, hsa, hxf, hsf, hxd, hsd, hxn, hsn, hci, hca])
 have HFL := Lib.hid (show xf.length ≤ y0.length ∧ xd.length ≤ y0.length from ⟨by rw [← hxf]; exact tR_len' _ _ _, by rw [← hxd]; exact tR_len' _ _ _⟩)
 have hy0 : y0.length ≤ 1000000 := Nat.le_trans HYL.out hl
 clear HYL
 clear hxi hsi hxa hsa hxf hsf hxd hsd hxn hsn hci hca hcap
 go_upto_region 5 with fail
 have HR0 := Lib.hid (show RrAt (wc.alloc (.cells #[.slice pz0 y0.length cz0, .int .i64 0, .bool false] 63)) wc.heap.size base (.slice pz0 y0.length cz0) y0 (some 0) from ⟨0, false, Blk.new _ _ _ rfl, by simp, by simp, Nat.zero_le _, by omega, HP0.out.keeps ((Keeps.refl _).alloc _)⟩)
 have HKg := Lib.hid (show Keeps wc (wc.alloc (.cells #[.slice pz0 y0.length cz0, .int .i64 0, .bool false] 63)) from (Keeps.refl _).alloc _)
 have HGW := Lib.hid (show w.heap.size ≤ wc.heap.size from HK1.out.size)
 generalize wc.alloc (.cells #[.slice pz0 y0.length cz0, .int .i64 0, .bool false] 63) = w2 at *
 generalize wc.heap.size = g at *
 have HAP := Lib.hid (apart_rd HR0.out)
 have HF2 := Lib.hid (HF1.out.keeps HKg.out)
 have HX2 := Lib.hid (HX1.out.keeps HKg.out)
 have HK2 := Lib.hid (HK1.out.trans HKg.out)
 clear HF1 HX1 HK1 HP0 HKg d3
 go_wp2_with fail
 refine (rnum_any _ g base _ y0 _ HR0.out 8 8 rfl (by omega)).mono ?_
 rintro e z1 ⟨rfl, hrd, hm⟩
 rw [HE.out.2.1] at hrd
 rw [HE.out.1, HCP.out.1]
 have HR1 := Lib.hid hrd
 have HM1 := Lib.hid hm
 clear hrd hm HR0
 go_wp2_with fail
 refine (rnum_any _ g base _ y0 _ HR1.out 8 8 rfl (by omega)).mono ?_
 rintro e z2 ⟨rfl, hrd, hm⟩
 rw [HE.out.2.2.2.1] at hrd
 rw [HE.out.2.2.1, HCP.out.2.1]
 have HR2' := Lib.hid hrd
 have HM2 := Lib.hid (HM1.out.trans hm (fun x h _ => h))
 clear hrd hm HR1 HM1
 go_upto_region 6 with fail
 obtain ⟨J, hJ⟩ : ∃ J, J = z2.heap.size := ⟨_, rfl⟩
 have HT3 := Lib.hid (show RfSt w (z2.alloc (.cells #[.int .i64 ci, .int .i64 ca, .string ⟨#[]⟩, .string ⟨#[]⟩, .slice none 0 0, .slice none 0 0, .slice none 0 0] 29)) J Rb base ci ca [] [] (.slice none 0 0) [] (.slice none 0 0) [] (.slice none 0 0) [] (.slice (some ⟨b, off, none⟩) F.length c1) F from
  ⟨⟨Blk.new _ _ _ hJ, World.ownsRow_nil _ _ _ _, World.ownsRow_nil _ _ _ _, (HF2.out.modsT HM2.out (fun x hx => HAP.out x hx _ (.inr (.inr (.inr (.inl rfl))))) (fun x hx => HAP.out x hx _ (.inr (.inr (.inr (.inr (.inl rfl))))))).keeps ((Keeps.refl _).alloc _), Piece.nil _ _ _,
   (HM2.out.keeps HK2.out (fun x hx => by rw [hx]; exact HGW.out)).alloc _, by rw [hJ]; exact Nat.le_trans HK2.out.size HM2.out.size⟩, (HX2.out.mods HM2.out (blk_apart (X := (· = g)) HX2.out (fun x hx => HAP.out x hx _ (.inr (.inr (.inr (.inr (.inr rfl)))))))).alloc _, HRW.out⟩)
 have HR3 := Lib.hid (HR2'.out.kept ((Keeps.refl z2).alloc (.cells #[.int .i64 ci, .int .i64 ca, .string ⟨#[]⟩, .string ⟨#[]⟩, .slice none 0 0, .slice none 0 0, .slice none 0 0] 29)))
 have HGJ := Lib.hid (show g ≠ J from fun e => by have := HR2'.out.lt; omega)
 rw [← hJ]
 generalize z2.alloc (.cells #[.int .i64 ci, .int .i64 ca, .string ⟨#[]⟩, .string ⟨#[]⟩, .slice none 0 0, .slice none 0 0, .slice none 0 0] 29) = y3 at *
 clear hJ HR2' HX2 HK2 HF2 HM2
 go_wp2_with fail
 refine (rtext_any _ g base _ y0 _ HR3.out).mono ?_
 rintro e z4 ⟨rfl, hrd, hm⟩
 rw [HE.out.2.2.2.2.2.1] at hrd
 rw [HE.out.2.2.2.2.1]
 have HR4 := Lib.hid hrd
 have HT4 := Lib.hid (HT3.out.away hm (fun x hx => by rw [hx]; exact HGW.out) (apart_rd HR3.out))
 clear hrd hm HR3 HT3
 go_wp2_with fail
 refine (rtext_any _ g base _ y0 _ HR4.out).mono ?_
 rintro e z5 ⟨rfl, hrd, hm⟩
 rw [HE.out.2.2.2.2.2.2.2.1] at hrd
 rw [HE.out.2.2.2.2.2.2.1]
 have HR5 := Lib.hid hrd
 have HT5 := Lib.hid (HT4.out.away hm (fun x hx => by rw [hx]; exact HGW.out) (apart_rd HR4.out))
 clear hrd hm HR4 HT4
 have j2 : z5.cell? ⟨J, 2, none⟩ = some (.string (bstr [])) := by rw [HT5.out.rd.job.cell]; rfl
 have j3 : z5.cell? ⟨J, 3, none⟩ = some (.string (bstr [])) := by rw [HT5.out.rd.job.cell]; rfl
 have f2 : z5.frozen? ⟨J, 2, none⟩ = false := HT5.out.rd.job.frozen _
 have f3 : z5.frozen? ⟨J, 3, none⟩ = false := HT5.out.rd.job.frozen _
 have HMJ := Lib.hid (show Mods (· = J) z5 ((z5.setCell ⟨J, 2, none⟩ (.string (bstr xf))).setCell ⟨J, 3, none⟩ (.string (bstr xd))) from ((Mods.refl (· = J) z5).setCell (p := ⟨J, 2, none⟩) (fun _ => rfl) _).setCell (p := ⟨J, 3, none⟩) (fun _ => rfl) _)
 have HT6 := Lib.hid (HT5.out.write HMJ.out (id' := ci) (arr' := ca) (fl' := xf) (fd' := xd) ((HT5.out.rd.job.set_ 2 _).set_ 3 _))
 have HR6 := Lib.hid (HR5.out.mods HMJ.out HGJ.out (fun x hx => by subst hx; exact blk_ty HT5.out.rd.job (by decide)))
 go_upto_region 7 with fail
 generalize ((z5.setCell ⟨J, 2, none⟩ (.string (bstr xf))).setCell ⟨J, 3, none⟩ (.string (bstr xd))) = y6 at *
 clear j2 j3 f2 f3 HMJ HT5 HR5
 go_wp2_with fail
 refine (rnum_any _ g base _ y0 _ HR6.out 1 1 rfl (by omega)).mono ?_
 rintro e z7 ⟨rfl, hrd, hm⟩
 rw [HE.out.2.2.2.2.2.2.2.2.2] at hrd
 rw [HE.out.2.2.2.2.2.2.2.2.1, HCP.out.2.2]
 have HR7 := Lib.hid hrd
 have HT7 := Lib.hid (HT6.out.away hm (fun x hx => by rw [hx]; exact HGW.out) (apart_rd HR6.out))
 clear hrd hm HR6 HT6 HE HCP
 go_wp2_with fail
 go_loopw [7] (fun iv wr => ∃ (i : Nat) (vt : Value), iv = .int .i64 (i : Int) ∧ i ≤ xn ∧ Hid (RrAt wr g base (.slice pz0 y0.length cz0) y0 (tgsR y0 mT i sn).2) ∧ Hid (RfSt w wr J Rb base ci ca xf xd vt (tgsR y0 mT i sn).1 (.slice none 0 0) [] (.slice none 0 0) [] (.slice (some ⟨b, off, none⟩) F.length c1) F)) (fun iv _ => xn - (intOf iv).toNat)
 case atStart => exact ⟨0, _, rfl, Nat.zero_le _, HR7, HT7⟩
 case round =>
  obtain ⟨i, vt, rfl, hi, HR, HT⟩ := hrel
  obtain ⟨po, co, rfl, hpo⟩ := ownsRow_form HT.out.rd.tos
  have HTL := Lib.hid (tgsR_len y0 mT i sn)
  by_cases hlt : i < xn
  ·have hw : IntKind.i64.wrap ((i : Int) + 1) = (i : Int) + 1 := IntWalk.i64_in _ (by omega)
   have HNX := Lib.hid (tgsR_snoc y0 mT i sn)
   generalize hT : (tgsR y0 mT i sn).1 = T at *
   generalize hσ : (tgsR y0 mT i sn).2 = σ at *
   clear hT hσ
   have htl : T.length ≤ 255 := by have := HTL.out; omega
   have hbu := uR_lt y0 2 (by omega) σ
   have HTG := Lib.hid (show tgR y0 mT σ = (⟨(uR y0 2 σ).1, (tR y0 mT (uR y0 2 σ).2).1, (tR y0 mT (tR y0 mT (uR y0 2 σ).2).2).1⟩, (tR y0 mT (tR y0 mT (uR y0 2 σ).2).2).2) from rfl)
   generalize hxu : (uR y0 2 σ).1 = xu at *
   generalize hsu : (uR y0 2 σ).2 = su at *
   generalize hx1 : (tR y0 mT su).1 = x1 at *
   generalize hs1 : (tR y0 mT su).2 = s1 at *
   generalize hx2 : (tR y0 mT s1).1 = x2 at *
   generalize hs2 : (tR y0 mT s1).2 = s2 at *
   simp only [Nat.reducePow] at hbu
   have hcu : capI m63 xu = (xu : Int) := by unfold capI m63; rw [if_pos (by omega)]
   have HEU := Lib.hid (And.intro hxu (And.intro hsu (And.intro hx1 (And.intro hs1 (And.intro hx2 (And.intro hs2 hcu))))))
   clear hxu hsu hx1 hs1 hx2 hs2 hcu
   as_aux_lemma =>
   go_upto_block 1 with fail
   go_cut [82] (fun _ wx => ∃ vt' : Value, Hid (RrAt wx g base (.slice pz0 y0.length cz0) y0 s2) ∧ Hid (RfSt w wx J Rb base ci ca xf xd vt' (T ++ [⟨(xu : Int), x1, x2⟩]) (.slice none 0 0) [] (.slice none 0 0) [] (.slice (some ⟨b, off, none⟩) F.length c1) F))
   case first =>
    go_wp2_with fail
    refine (rnum_any _ g base _ y0 _ HR.out 2 2 rfl (by omega)).mono ?_
    rintro e z1 ⟨rfl, hrd, hm⟩
    rw [HEU.out.2.1] at hrd
    rw [HEU.out.1, HEU.out.2.2.2.2.2.2]
    obtain ⟨wq, rfl⟩ : ∃ z : World, z = z1 := ⟨_, rfl⟩
    have HR1 := Lib.hid hrd
    have HT1 := Lib.hid (HT.out.away hm (fun x hx => by rw [hx]; exact HGW.out) (apart_rd HR.out))
    clear hrd hm HR HT
    go_wp2_with fail
    have HR0 := Lib.hid (HR1.out.kept ((Keeps.refl wq).drew))
    have HT0 := Lib.hid (HT1.out.kept ((Keeps.refl wq).drew))
    refine wp_region_noPanic ?_
    refine wp_region_held_drew (S := fun w' => Mods (fun x => (x = g ∨ x = J) ∨ (Value.slice po T.length co).ownBlock = some x) wq w') (by kernel_rfl) ((Mods.refl (fun x => (x = g ∨ x = J) ∨ (Value.slice po T.length co).ownBlock = some x) wq).drew) (fun _ => ?_)
    have hHeld : Mods (fun x => (x = g ∨ x = J) ∨ (Value.slice po T.length co).ownBlock = some x) wq (wq).drew := (Mods.refl (fun x => (x = g ∨ x = J) ∨ (Value.slice po T.length co).ownBlock = some x) wq).drew
    generalize World.drew wq = xs at *
    refine tq 0 71 ?_
    refine tq 2 73 ?_
    refine tq 3 74 ?_
    refine tq 5 76 ?_
    refine wpAnyH_ready (rs := [1, 4]) (by kernel_rfl) (by simp) ?_
    refine AllReadyH.cons (o := _) rfl (fun K hK => ?_) ?_
    ·have hx : World.cell? xs ⟨J, 4, none⟩ = some (.slice po T.length co) := by rw [HT0.out.rd.job.cell]; rfl
     go_simp
     clear hx
     have hb := hHeld
     refine bkm hK hb ?_
     clear hK K hHeld
     have hHeld : Mods (fun x => (x = g ∨ x = J) ∨ (Value.slice po T.length co).ownBlock = some x) wq xs := hb
     clear hb
     refine rd1 4 (fun K hK => ?_)
     go_simp
     refine (rtext_any _ g base _ y0 _ HR0.out).mono ?_
     rintro e z4 ⟨rfl, hrd, hm⟩
     rw [HEU.out.2.2.2.1] at hrd
     rw [HEU.out.2.2.1]
     have HR4 := Lib.hid hrd
     have HT4 := Lib.hid (HT0.out.away hm (fun x hx => by rw [hx]; exact HGW.out) (apart_rd HR0.out))
     have hb := hHeld.trans hm (fun x h _ => .inl (.inl h))
     clear hrd hm
     go_wp2_with fail
     refine bkm hK hb ?_
     clear hK K hHeld
     have hHeld : Mods (fun x => (x = g ∨ x = J) ∨ (Value.slice po T.length co).ownBlock = some x) wq z4 := hb
     clear hb
     refine rd1 6 (fun K hK => ?_)
     go_simp
     refine (rtext_any _ g base _ y0 _ HR4.out).mono ?_
     rintro e z6 ⟨rfl, hrd, hm⟩
     rw [HEU.out.2.2.2.2.2.1] at hrd
     rw [HEU.out.2.2.2.2.1]
     have HR6 := Lib.hid hrd
     have HT6 := Lib.hid (HT4.out.away hm (fun x hx => by rw [hx]; exact HGW.out) (apart_rd HR4.out))
     have hb := hHeld.trans hm (fun x h _ => .inl (.inl h))
     clear hrd hm
     go_wp2_with fail
     refine bkm hK hb ?_
     clear hK K hHeld
     have hHeld : Mods (fun x => (x = g ∨ x = J) ∨ (Value.slice po T.length co).ownBlock = some x) wq z6 := hb
     clear hb
     refine tq 7 78 ?_
     refine tq 8 79 ?_
     refine rd1 9 (fun K hK => ?_)
     go_simp
     obtain ⟨b9, hb9⟩ : ∃ z, z = (World.heap z6).size := ⟨_, rfl⟩
     have HB9 := Lib.hid (show Blk (World.alloc z6 (.cells #[.int .i64 (xu : Int), .string (bstr x1), .string (bstr x2)] 47)) b9 47 #[.int .i64 (xu : Int), .string (bstr x1), .string (bstr x2)] from Blk.new _ _ _ hb9)
     have HR9 := Lib.hid (HR6.out.kept ((Keeps.refl _).alloc (.cells #[.int .i64 (xu : Int), .string (bstr x1), .string (bstr x2)] 47)))
     have HT9 := Lib.hid (HT6.out.kept ((Keeps.refl _).alloc (.cells #[.int .i64 (xu : Int), .string (bstr x1), .string (bstr x2)] 47)))
     have hb := hHeld.alloc (.cells #[.int .i64 (xu : Int), .string (bstr x1), .string (bstr x2)] 47)
     have HBB := Lib.hid hb9
     clear hb9
     generalize World.alloc z6 (.cells #[.int .i64 (xu : Int), .string (bstr x1), .string (bstr x2)] 47) = x9 at *
     refine bkm hK hb ?_
     clear hK K hHeld
     have hHeld : Mods (fun x => (x = g ∨ x = J) ∨ (Value.slice po T.length co).ownBlock = some x) wq x9 := hb
     clear hb
     refine rd1 10 (fun K hK => ?_)
     refine step_appG (base := w.heap.size) tgok (by decide) rfl _ _ rfl (Value.slice po T.length co) T.length 1 1 ⟨b9, 0, none⟩ (T.flatMap tgC) [.int .i64 (xu : Int), .string (bstr x1), .string (bstr x2)] rfl (congrArg (fun g => Value.slice (some ⟨g, 0, none⟩) 1 1) HBB.out.symm) HT9.out.rd.tos rfl (fun j y hy => by rw [Go.WideShapes.add_plain, HB9.out.cell, Nat.zero_add]; simpa using hy) (by simp [Value.oneCell']) (by omega) (by decide) HT9.out.rd.keeps.size ?_
     intro v6 xA ho6 hg6 hf6
     obtain ⟨p6, c6, rfl, -, -⟩ := Frm.ownsRow_form ho6
     have HJA := Lib.hid (HT9.out.rd.job.grown hg6 (ownsRow_ne HT9.out.rd.tos HT9.out.rd.job (by decide)))
     have HTA := Lib.hid (HT9.out.grownT (t := ⟨(xu : Int), x1, x2⟩) (Keeps.refl _) hg6 ho6)
     have HRA := Lib.hid (HR9.out.mods ((Mods.refl (fun x => (Value.slice po T.length co).ownBlock = some x) _).grown hg6 (fun k hk _ => hk)) (fun h => by obtain ⟨a, bad, hB, -⟩ := HR9.out; exact ownsRow_ne HT9.out.rd.tos hB (by decide) h) (fun x hx => ownsRow_ty HT9.out.rd.tos (by decide) x hx))
     have hb := hHeld.grown hg6 (fun k hk _ => .inr hk)
     clear ho6 hg6 hf6 HB9
     show K (Act.put _ (some 81) _) xA
     refine bkm hK hb ?_
     clear hK K hHeld
     have hHeld : Mods (fun x => (x = g ∨ x = J) ∨ (Value.slice po T.length co).ownBlock = some x) wq xA := hb
     clear hb
     refine tq 11 82 ?_
     refine rd1 12 (fun K hK => ?_)
     have hx : World.cell? xA ⟨J, 4, none⟩ = some (.slice po T.length co) := by rw [HJA.out.cell]; rfl
     have hz : World.frozen? xA ⟨J, 4, none⟩ = false := HJA.out.frozen 4
     go_simp
     have HRF := Lib.hid (HRA.out.mods ((Mods.refl (· = J) _).setCell (p := ⟨J, 4, none⟩) (fun _ => rfl) (.slice p6 (T.length + 1) c6)) HGJ.out (fun x hx => by subst hx; exact blk_ty HJA.out (by decide)))
     have hb := hHeld.setCell (p := ⟨J, 4, none⟩) (fun _ => .inl (.inr rfl)) (.slice p6 (T.length + 1) c6)
     clear hx hz
     generalize World.setCell xA ⟨J, 4, none⟩ (.slice p6 (T.length + 1) c6) = xF at *
     refine bkm hK hb ?_
     clear hK K hHeld
     have hHeld : Mods (fun x => (x = g ∨ x = J) ∨ (Value.slice po T.length co).ownBlock = some x) wq xF := hb
     clear hb
     refine wpAnyH_done (by kernel_rfl) ?_ _
     refine NoPanic.normal ?_
     go_wp2_with fail
     go_meet
     exact ⟨_, HRF, HTA⟩
    refine AllReadyH.cons (o := _) rfl (fun K hK => ?_) ?_
    ·go_simp
     refine (rtext_any _ g base _ y0 _ HR0.out).mono ?_
     rintro e z4 ⟨rfl, hrd, hm⟩
     rw [HEU.out.2.2.2.1] at hrd
     rw [HEU.out.2.2.1]
     have HR4 := Lib.hid hrd
     have HT4 := Lib.hid (HT0.out.away hm (fun x hx => by rw [hx]; exact HGW.out) (apart_rd HR0.out))
     have hb := hHeld.trans hm (fun x h _ => .inl (.inl h))
     clear hrd hm
     go_wp2_with fail
     refine bkm hK hb ?_
     clear hK K hHeld
     have hHeld : Mods (fun x => (x = g ∨ x = J) ∨ (Value.slice po T.length co).ownBlock = some x) wq z4 := hb
     clear hb
     refine wpAnyH_ready (rs := [1, 6]) (by kernel_rfl) (by simp) ?_
     refine AllReadyH.cons (o := _) rfl (fun K hK => ?_) ?_
     ·have hx : World.cell? z4 ⟨J, 4, none⟩ = some (.slice po T.length co) := by rw [HT4.out.rd.job.cell]; rfl
      go_simp
      clear hx
      have hb := hHeld
      refine bkm hK hb ?_
      clear hK K hHeld
      have hHeld : Mods (fun x => (x = g ∨ x = J) ∨ (Value.slice po T.length co).ownBlock = some x) wq z4 := hb
      clear hb
      refine rd1 6 (fun K hK => ?_)
      go_simp
      refine (rtext_any _ g base _ y0 _ HR4.out).mono ?_
      rintro e z6 ⟨rfl, hrd, hm⟩
      rw [HEU.out.2.2.2.2.2.1] at hrd
      rw [HEU.out.2.2.2.2.1]
      have HR6 := Lib.hid hrd
      have HT6 := Lib.hid (HT4.out.away hm (fun x hx => by rw [hx]; exact HGW.out) (apart_rd HR4.out))
      have hb := hHeld.trans hm (fun x h _ => .inl (.inl h))
      clear hrd hm
      go_wp2_with fail
      refine bkm hK hb ?_
      clear hK K hHeld
      have hHeld : Mods (fun x => (x = g ∨ x = J) ∨ (Value.slice po T.length co).ownBlock = some x) wq z6 := hb
      clear hb
      refine tq 7 78 ?_
      refine tq 8 79 ?_
      refine rd1 9 (fun K hK => ?_)
      go_simp
      obtain ⟨b9, hb9⟩ : ∃ z, z = (World.heap z6).size := ⟨_, rfl⟩
      have HB9 := Lib.hid (show Blk (World.alloc z6 (.cells #[.int .i64 (xu : Int), .string (bstr x1), .string (bstr x2)] 47)) b9 47 #[.int .i64 (xu : Int), .string (bstr x1), .string (bstr x2)] from Blk.new _ _ _ hb9)
      have HR9 := Lib.hid (HR6.out.kept ((Keeps.refl _).alloc (.cells #[.int .i64 (xu : Int), .string (bstr x1), .string (bstr x2)] 47)))
      have HT9 := Lib.hid (HT6.out.kept ((Keeps.refl _).alloc (.cells #[.int .i64 (xu : Int), .string (bstr x1), .string (bstr x2)] 47)))
      have hb := hHeld.alloc (.cells #[.int .i64 (xu : Int), .string (bstr x1), .string (bstr x2)] 47)
      have HBB := Lib.hid hb9
      clear hb9
      generalize World.alloc z6 (.cells #[.int .i64 (xu : Int), .string (bstr x1), .string (bstr x2)] 47) = x9 at *
      refine bkm hK hb ?_
      clear hK K hHeld
      have hHeld : Mods (fun x => (x = g ∨ x = J) ∨ (Value.slice po T.length co).ownBlock = some x) wq x9 := hb
      clear hb
      refine rd1 10 (fun K hK => ?_)
      refine step_appG (base := w.heap.size) tgok (by decide) rfl _ _ rfl (Value.slice po T.length co) T.length 1 1 ⟨b9, 0, none⟩ (T.flatMap tgC) [.int .i64 (xu : Int), .string (bstr x1), .string (bstr x2)] rfl (congrArg (fun g => Value.slice (some ⟨g, 0, none⟩) 1 1) HBB.out.symm) HT9.out.rd.tos rfl (fun j y hy => by rw [Go.WideShapes.add_plain, HB9.out.cell, Nat.zero_add]; simpa using hy) (by simp [Value.oneCell']) (by omega) (by decide) HT9.out.rd.keeps.size ?_
      intro v6 xA ho6 hg6 hf6
      obtain ⟨p6, c6, rfl, -, -⟩ := Frm.ownsRow_form ho6
      have HJA := Lib.hid (HT9.out.rd.job.grown hg6 (ownsRow_ne HT9.out.rd.tos HT9.out.rd.job (by decide)))
      have HTA := Lib.hid (HT9.out.grownT (t := ⟨(xu : Int), x1, x2⟩) (Keeps.refl _) hg6 ho6)
      have HRA := Lib.hid (HR9.out.mods ((Mods.refl (fun x => (Value.slice po T.length co).ownBlock = some x) _).grown hg6 (fun k hk _ => hk)) (fun h => by obtain ⟨a, bad, hB, -⟩ := HR9.out; exact ownsRow_ne HT9.out.rd.tos hB (by decide) h) (fun x hx => ownsRow_ty HT9.out.rd.tos (by decide) x hx))
      have hb := hHeld.grown hg6 (fun k hk _ => .inr hk)
      clear ho6 hg6 hf6 HB9
      show K (Act.put _ (some 81) _) xA
      refine bkm hK hb ?_
      clear hK K hHeld
      have hHeld : Mods (fun x => (x = g ∨ x = J) ∨ (Value.slice po T.length co).ownBlock = some x) wq xA := hb
      clear hb
      refine tq 11 82 ?_
      refine rd1 12 (fun K hK => ?_)
      have hx : World.cell? xA ⟨J, 4, none⟩ = some (.slice po T.length co) := by rw [HJA.out.cell]; rfl
      have hz : World.frozen? xA ⟨J, 4, none⟩ = false := HJA.out.frozen 4
      go_simp
      have HRF := Lib.hid (HRA.out.mods ((Mods.refl (· = J) _).setCell (p := ⟨J, 4, none⟩) (fun _ => rfl) (.slice p6 (T.length + 1) c6)) HGJ.out (fun x hx => by subst hx; exact blk_ty HJA.out (by decide)))
      have hb := hHeld.setCell (p := ⟨J, 4, none⟩) (fun _ => .inl (.inr rfl)) (.slice p6 (T.length + 1) c6)
      clear hx hz
      generalize World.setCell xA ⟨J, 4, none⟩ (.slice p6 (T.length + 1) c6) = xF at *
      refine bkm hK hb ?_
      clear hK K hHeld
      have hHeld : Mods (fun x => (x = g ∨ x = J) ∨ (Value.slice po T.length co).ownBlock = some x) wq xF := hb
      clear hb
      refine wpAnyH_done (by kernel_rfl) ?_ _
      refine NoPanic.normal ?_
      go_wp2_with fail
      go_meet
      exact ⟨_, HRF, HTA⟩
     refine AllReadyH.cons (o := _) rfl (fun K hK => ?_) ?_
     ·go_simp
      refine (rtext_any _ g base _ y0 _ HR4.out).mono ?_
      rintro e z6 ⟨rfl, hrd, hm⟩
      rw [HEU.out.2.2.2.2.2.1] at hrd
      rw [HEU.out.2.2.2.2.1]
      have HR6 := Lib.hid hrd
      have HT6 := Lib.hid (HT4.out.away hm (fun x hx => by rw [hx]; exact HGW.out) (apart_rd HR4.out))
      have hb := hHeld.trans hm (fun x h _ => .inl (.inl h))
      clear hrd hm
      go_wp2_with fail
      refine bkm hK hb ?_
      clear hK K hHeld
      have hHeld : Mods (fun x => (x = g ∨ x = J) ∨ (Value.slice po T.length co).ownBlock = some x) wq z6 := hb
      clear hb
      refine tq 7 78 ?_
      refine tq 8 79 ?_
      refine wpAnyH_ready (rs := [1, 9]) (by kernel_rfl) (by simp) ?_
      refine AllReadyH.cons (o := _) rfl (fun K hK => ?_) ?_
      ·have hx : World.cell? z6 ⟨J, 4, none⟩ = some (.slice po T.length co) := by rw [HT6.out.rd.job.cell]; rfl
       go_simp
       clear hx
       have hb := hHeld
       refine bkm hK hb ?_
       clear hK K hHeld
       have hHeld : Mods (fun x => (x = g ∨ x = J) ∨ (Value.slice po T.length co).ownBlock = some x) wq z6 := hb
       clear hb
       refine rd1 9 (fun K hK => ?_)
       go_simp
       obtain ⟨b9, hb9⟩ : ∃ z, z = (World.heap z6).size := ⟨_, rfl⟩
       have HB9 := Lib.hid (show Blk (World.alloc z6 (.cells #[.int .i64 (xu : Int), .string (bstr x1), .string (bstr x2)] 47)) b9 47 #[.int .i64 (xu : Int), .string (bstr x1), .string (bstr x2)] from Blk.new _ _ _ hb9)
       have HR9 := Lib.hid (HR6.out.kept ((Keeps.refl _).alloc (.cells #[.int .i64 (xu : Int), .string (bstr x1), .string (bstr x2)] 47)))
       have HT9 := Lib.hid (HT6.out.kept ((Keeps.refl _).alloc (.cells #[.int .i64 (xu : Int), .string (bstr x1), .string (bstr x2)] 47)))
       have hb := hHeld.alloc (.cells #[.int .i64 (xu : Int), .string (bstr x1), .string (bstr x2)] 47)
       have HBB := Lib.hid hb9
       clear hb9
       generalize World.alloc z6 (.cells #[.int .i64 (xu : Int), .string (bstr x1), .string (bstr x2)] 47) = x9 at *
       refine bkm hK hb ?_
       clear hK K hHeld
       have hHeld : Mods (fun x => (x = g ∨ x = J) ∨ (Value.slice po T.length co).ownBlock = some x) wq x9 := hb
       clear hb
       refine rd1 10 (fun K hK => ?_)
       refine step_appG (base := w.heap.size) tgok (by decide) rfl _ _ rfl (Value.slice po T.length co) T.length 1 1 ⟨b9, 0, none⟩ (T.flatMap tgC) [.int .i64 (xu : Int), .string (bstr x1), .string (bstr x2)] rfl (congrArg (fun g => Value.slice (some ⟨g, 0, none⟩) 1 1) HBB.out.symm) HT9.out.rd.tos rfl (fun j y hy => by rw [Go.WideShapes.add_plain, HB9.out.cell, Nat.zero_add]; simpa using hy) (by simp [Value.oneCell']) (by omega) (by decide) HT9.out.rd.keeps.size ?_
       intro v6 xA ho6 hg6 hf6
       obtain ⟨p6, c6, rfl, -, -⟩ := Frm.ownsRow_form ho6
       have HJA := Lib.hid (HT9.out.rd.job.grown hg6 (ownsRow_ne HT9.out.rd.tos HT9.out.rd.job (by decide)))
       have HTA := Lib.hid (HT9.out.grownT (t := ⟨(xu : Int), x1, x2⟩) (Keeps.refl _) hg6 ho6)
       have HRA := Lib.hid (HR9.out.mods ((Mods.refl (fun x => (Value.slice po T.length co).ownBlock = some x) _).grown hg6 (fun k hk _ => hk)) (fun h => by obtain ⟨a, bad, hB, -⟩ := HR9.out; exact ownsRow_ne HT9.out.rd.tos hB (by decide) h) (fun x hx => ownsRow_ty HT9.out.rd.tos (by decide) x hx))
       have hb := hHeld.grown hg6 (fun k hk _ => .inr hk)
       clear ho6 hg6 hf6 HB9
       show K (Act.put _ (some 81) _) xA
       refine bkm hK hb ?_
       clear hK K hHeld
       have hHeld : Mods (fun x => (x = g ∨ x = J) ∨ (Value.slice po T.length co).ownBlock = some x) wq xA := hb
       clear hb
       refine tq 11 82 ?_
       refine rd1 12 (fun K hK => ?_)
       have hx : World.cell? xA ⟨J, 4, none⟩ = some (.slice po T.length co) := by rw [HJA.out.cell]; rfl
       have hz : World.frozen? xA ⟨J, 4, none⟩ = false := HJA.out.frozen 4
       go_simp
       have HRF := Lib.hid (HRA.out.mods ((Mods.refl (· = J) _).setCell (p := ⟨J, 4, none⟩) (fun _ => rfl) (.slice p6 (T.length + 1) c6)) HGJ.out (fun x hx => by subst hx; exact blk_ty HJA.out (by decide)))
       have hb := hHeld.setCell (p := ⟨J, 4, none⟩) (fun _ => .inl (.inr rfl)) (.slice p6 (T.length + 1) c6)
       clear hx hz
       generalize World.setCell xA ⟨J, 4, none⟩ (.slice p6 (T.length + 1) c6) = xF at *
       refine bkm hK hb ?_
       clear hK K hHeld
       have hHeld : Mods (fun x => (x = g ∨ x = J) ∨ (Value.slice po T.length co).ownBlock = some x) wq xF := hb
       clear hb
       refine wpAnyH_done (by kernel_rfl) ?_ _
       refine NoPanic.normal ?_
       go_wp2_with fail
       go_meet
       exact ⟨_, HRF, HTA⟩
      refine AllReadyH.cons (o := _) rfl (fun K hK => ?_) ?_
      ·go_simp
       obtain ⟨b9, hb9⟩ : ∃ z, z = (World.heap z6).size := ⟨_, rfl⟩
       have HB9 := Lib.hid (show Blk (World.alloc z6 (.cells #[.int .i64 (xu : Int), .string (bstr x1), .string (bstr x2)] 47)) b9 47 #[.int .i64 (xu : Int), .string (bstr x1), .string (bstr x2)] from Blk.new _ _ _ hb9)
       have HR9 := Lib.hid (HR6.out.kept ((Keeps.refl _).alloc (.cells #[.int .i64 (xu : Int), .string (bstr x1), .string (bstr x2)] 47)))
       have HT9 := Lib.hid (HT6.out.kept ((Keeps.refl _).alloc (.cells #[.int .i64 (xu : Int), .string (bstr x1), .string (bstr x2)] 47)))
       have hb := hHeld.alloc (.cells #[.int .i64 (xu : Int), .string (bstr x1), .string (bstr x2)] 47)
       have HBB := Lib.hid hb9
       clear hb9
       generalize World.alloc z6 (.cells #[.int .i64 (xu : Int), .string (bstr x1), .string (bstr x2)] 47) = x9 at *
       refine bkm hK hb ?_
       clear hK K hHeld
       have hHeld : Mods (fun x => (x = g ∨ x = J) ∨ (Value.slice po T.length co).ownBlock = some x) wq x9 := hb
       clear hb
       refine rd1 1 (fun K hK => ?_)
       have hx : World.cell? x9 ⟨J, 4, none⟩ = some (.slice po T.length co) := by rw [HT9.out.rd.job.cell]; rfl
       go_simp
       clear hx
       have hb := hHeld
       refine bkm hK hb ?_
       clear hK K hHeld
       have hHeld : Mods (fun x => (x = g ∨ x = J) ∨ (Value.slice po T.length co).ownBlock = some x) wq x9 := hb
       clear hb
       refine rd1 10 (fun K hK => ?_)
       refine step_appG (base := w.heap.size) tgok (by decide) rfl _ _ rfl (Value.slice po T.length co) T.length 1 1 ⟨b9, 0, none⟩ (T.flatMap tgC) [.int .i64 (xu : Int), .string (bstr x1), .string (bstr x2)] rfl (congrArg (fun g => Value.slice (some ⟨g, 0, none⟩) 1 1) HBB.out.symm) HT9.out.rd.tos rfl (fun j y hy => by rw [Go.WideShapes.add_plain, HB9.out.cell, Nat.zero_add]; simpa using hy) (by simp [Value.oneCell']) (by omega) (by decide) HT9.out.rd.keeps.size ?_
       intro v6 xA ho6 hg6 hf6
       obtain ⟨p6, c6, rfl, -, -⟩ := Frm.ownsRow_form ho6
       have HJA := Lib.hid (HT9.out.rd.job.grown hg6 (ownsRow_ne HT9.out.rd.tos HT9.out.rd.job (by decide)))
       have HTA := Lib.hid (HT9.out.grownT (t := ⟨(xu : Int), x1, x2⟩) (Keeps.refl _) hg6 ho6)
       have HRA := Lib.hid (HR9.out.mods ((Mods.refl (fun x => (Value.slice po T.length co).ownBlock = some x) _).grown hg6 (fun k hk _ => hk)) (fun h => by obtain ⟨a, bad, hB, -⟩ := HR9.out; exact ownsRow_ne HT9.out.rd.tos hB (by decide) h) (fun x hx => ownsRow_ty HT9.out.rd.tos (by decide) x hx))
       have hb := hHeld.grown hg6 (fun k hk _ => .inr hk)
       clear ho6 hg6 hf6 HB9
       show K (Act.put _ (some 81) _) xA
       refine bkm hK hb ?_
       clear hK K hHeld
       have hHeld : Mods (fun x => (x = g ∨ x = J) ∨ (Value.slice po T.length co).ownBlock = some x) wq xA := hb
       clear hb
       refine tq 11 82 ?_
       refine rd1 12 (fun K hK => ?_)
       have hx : World.cell? xA ⟨J, 4, none⟩ = some (.slice po T.length co) := by rw [HJA.out.cell]; rfl
       have hz : World.frozen? xA ⟨J, 4, none⟩ = false := HJA.out.frozen 4
       go_simp
       have HRF := Lib.hid (HRA.out.mods ((Mods.refl (· = J) _).setCell (p := ⟨J, 4, none⟩) (fun _ => rfl) (.slice p6 (T.length + 1) c6)) HGJ.out (fun x hx => by subst hx; exact blk_ty HJA.out (by decide)))
       have hb := hHeld.setCell (p := ⟨J, 4, none⟩) (fun _ => .inl (.inr rfl)) (.slice p6 (T.length + 1) c6)
       clear hx hz
       generalize World.setCell xA ⟨J, 4, none⟩ (.slice p6 (T.length + 1) c6) = xF at *
       refine bkm hK hb ?_
       clear hK K hHeld
       have hHeld : Mods (fun x => (x = g ∨ x = J) ∨ (Value.slice po T.length co).ownBlock = some x) wq xF := hb
       clear hb
       refine wpAnyH_done (by kernel_rfl) ?_ _
       refine NoPanic.normal ?_
       go_wp2_with fail
       go_meet
       exact ⟨_, HRF, HTA⟩
      exact AllReadyH.nil
     exact AllReadyH.nil
    exact AllReadyH.nil
   case rest =>
   obtain ⟨vt', HRc, HTc⟩ := hcut
   have HN := Lib.hid (show RrAt wc g base (.slice pz0 y0.length cz0) y0 (tgsR y0 mT (i + 1) sn).2 ∧ RfSt w wc J Rb base ci ca xf xd vt' (tgsR y0 mT (i + 1) sn).1 (.slice none 0 0) [] (.slice none 0 0) [] (.slice (some ⟨b, off, none⟩) F.length c1) F from by
    rw [HNX.out, HTG.out]
    exact ⟨HRc.out, HTc.out⟩)
   clear HRc HTc HNX HTG HEU
   go_wp2_with fail
   go_roundw
   case rel => exact ⟨i + 1, vt', by simp, by omega, Lib.hid HN.out.1, Lib.hid HN.out.2⟩
   case measure =>
    simp only [intOf]
    omega
  ·have hie : i = xn := by omega
   subst hie
   have hlt' : ¬ (i : Int) < (i : Int) := by omega
   have HSM := Lib.hid (tgsR_sm y0 mT i sn)
   have HSL' := Lib.hid (fun (t : TgP) (ht : t ∈ (tgsR y0 mT i sn).1) => tgsR_lens y0 mT i sn t ht)
   generalize (tgsR y0 mT i sn).1 = T at *
   generalize (tgsR y0 mT i sn).2 = σ at *
   have hlen : T.length = i := HTL.out
   have HSH := Lib.hid (show Short ⟨ci, ca, xf, xd, T, [], []⟩ from ⟨Nat.le_trans HFL.out.1 hy0, Nat.le_trans HFL.out.2 hy0, fun t ht => ⟨Nat.le_trans (HSL'.out t ht).1 hy0, Nat.le_trans (HSL'.out t ht).2 hy0, tgSm_wf (HSM.out t ht)⟩, by show T.length ≤ _; omega, by simp, by simp⟩)
   have HOK := Lib.hid (show envOk (envR mT m63 m63 y0) y0 = (decide (σ = some y0.length) && envB ⟨ci, ca, xf, xd, T, [], []⟩) from by rw [HEN.out]; rfl)
   obtain ⟨nok, hnok⟩ : ∃ b, (!envOk (envR mT m63 m63 y0) y0) = b := ⟨_, rfl⟩
   have HNOK := Lib.hid hnok
   have HLI := Lib.hid hlen
   clear hnok hlt HTL HSM HSL'
   obtain ⟨wy, rfl⟩ : ∃ z : World, z = wr := ⟨_, rfl⟩
   go_upto_region 13 with fail
   go_cut [103] (fun t wx => t = .bool nok ∧ Keeps wy wx)
   case first =>
    as_aux_lemma =>
    obtain ⟨a, bad, hB, hbad, ha, hal, hll, hP⟩ := HR.out
    have HBAD := Lib.hid (And.intro hbad ha)
    have g0 : wy.cell? ⟨g, 0, none⟩ = some (.slice pz0 y0.length cz0) := by rw [hB.cell]; rfl
    have g1 : wy.cell? ⟨g, 1, none⟩ = some (.int .i64 (a : Int)) := by rw [hB.cell]; rfl
    have g2 : wy.cell? ⟨g, 2, none⟩ = some (.bool bad) := by rw [hB.cell]; rfl
    have HJB := Lib.hid HT.out.rd.job
    have HTO := Lib.hid HT.out.rd.tos
    have HGV : Hid (∀ wz, RowS wz 3 (.slice po T.length co) T.length (T.flatMap tgC) → Calls Try.prog 23 #[.agg (jobD ci ca xf xd (.slice po T.length co) (.slice none 0 0) (.slice none 0 0))] wz fun e w' => e = .returned (.bool (envB ⟨ci, ca, xf, xd, T, [], []⟩)) ∧ Keeps wz w') := Lib.hid (fun wz h => rEnv_any wz ⟨ci, ca, xf, xd, T, [], []⟩ (.slice po T.length co) (.slice none 0 0) (.slice none 0 0) ⟨h, rs_nil _ _, row_nil _⟩ HSH.out)
    clear hB hbad ha hP HR HT hlen HSH
    generalize envB ⟨ci, ca, xf, xd, T, [], []⟩ = eb at *
    cases bad with
    | true =>
     have hσ : σ = none := HBAD.out.1.1 rfl
     have HNK := Lib.hid (show nok = true from by rw [← HNOK.out, HOK.out, hσ]; rfl)
     clear hσ
     refine wp_region_noPanic ?_
     refine wp_region_held_drew (S := fun w' => Keeps wy w') (by kernel_rfl) (((Keeps.refl wy).drew)) (fun _ => ?_)
     have hHeld : Keeps wy (wy).drew := ((Keeps.refl wy).drew)
     generalize World.drew wy = xs at *
     refine tq 0 83 ?_
     refine tq 1 84 ?_
     refine tq 2 85 ?_
     refine tq 3 86 ?_ (hy := fun w' hSw => by
      have hSw : Keeps wy w' := hSw
      have hx := keep1 hSw g2
      clear hSw
      go_simp
      try with_reducible rfl)
     refine tq 4 87 ?_
     refine wpAnyH_take (i := 5) (by rfl) (by kernel_rfl) (by kernel_rfl) (by kernel_rfl) (by intro _ _ _ h; exact h) (Or.inr ⟨by kernel_rfl, rfl⟩) (by assumption) ?rest20
     change wpAnyH _ _ _ _ _ _ _ (Act.put _ (some 88) _) _
     try simp only [Act.put, List.setIfInBounds_toArray, List.set_cons_zero, List.set_cons_succ]
     refine wpAnyH_take (i := 6) (by rfl) (by kernel_rfl) (by kernel_rfl) (by kernel_rfl) (by intro _ _ _ h; exact h) (Or.inr ⟨by kernel_rfl, rfl⟩) (by assumption) ?rest21
     change wpAnyH _ _ _ _ _ _ _ (Act.put _ (some 89) _) _
     try simp only [Act.put, List.setIfInBounds_toArray, List.set_cons_zero, List.set_cons_succ]
     refine wpAnyH_take (i := 7) (by rfl) (by kernel_rfl) (by kernel_rfl) (by kernel_rfl) (by intro _ _ _ h; exact h) (Or.inr ⟨by kernel_rfl, rfl⟩) (by assumption) ?rest22
     change wpAnyH _ _ _ _ _ _ _ (Act.put _ (some 90) _) _
     try simp only [Act.put, List.setIfInBounds_toArray, List.set_cons_zero, List.set_cons_succ]
     refine wpAnyH_take (i := 8) (by rfl) (by kernel_rfl) (by kernel_rfl) (by kernel_rfl) (by intro _ _ _ h; exact h) (Or.inr ⟨by kernel_rfl, rfl⟩) (by assumption) ?rest23
     change wpAnyH _ _ _ _ _ _ _ (Act.put _ (some 91) _) _
     try simp only [Act.put, List.setIfInBounds_toArray, List.set_cons_zero, List.set_cons_succ]
     refine wpAnyH_take (i := 9) (by rfl) (by kernel_rfl) (by kernel_rfl) (by kernel_rfl) (by intro _ _ _ h; exact h) (Or.inr ⟨by kernel_rfl, rfl⟩) (by assumption) ?rest24
     change wpAnyH _ _ _ _ _ _ _ (Act.put _ (some 92) _) _
     try simp only [Act.put, List.setIfInBounds_toArray, List.set_cons_zero, List.set_cons_succ]
     refine wpAnyH_take (i := 10) (by rfl) (by kernel_rfl) (by kernel_rfl) (by kernel_rfl) (by intro _ _ _ h; exact h) (Or.inr ⟨by kernel_rfl, rfl⟩) (by assumption) ?rest25
     change wpAnyH _ _ _ _ _ _ _ (Act.put _ (some 93) _) _
     try simp only [Act.put, List.setIfInBounds_toArray, List.set_cons_zero, List.set_cons_succ]
     refine wpAnyH_take (i := 11) (by rfl) (by kernel_rfl) (by kernel_rfl) (by kernel_rfl) (by intro _ _ _ h; exact h) (Or.inr ⟨by kernel_rfl, rfl⟩) (by assumption) ?rest26
     change wpAnyH _ _ _ _ _ _ _ (Act.put _ (some 94) _) _
     try simp only [Act.put, List.setIfInBounds_toArray, List.set_cons_zero, List.set_cons_succ]
     refine wpAnyH_take (i := 12) (by rfl) (by kernel_rfl) (by kernel_rfl) (by kernel_rfl) (by intro _ _ _ h; exact h) (Or.inr ⟨by kernel_rfl, rfl⟩) (by assumption) ?rest27
     change wpAnyH _ _ _ _ _ _ _ (Act.put _ (some 95) _) _
     try simp only [Act.put, List.setIfInBounds_toArray, List.set_cons_zero, List.set_cons_succ]
     refine wpAnyH_take (i := 13) (by rfl) (by kernel_rfl) (by kernel_rfl) (by kernel_rfl) (by intro _ _ _ h; exact h) (Or.inr ⟨by kernel_rfl, rfl⟩) (by assumption) ?rest28
     change wpAnyH _ _ _ _ _ _ _ (Act.put _ (some 96) _) _
     try simp only [Act.put, List.setIfInBounds_toArray, List.set_cons_zero, List.set_cons_succ]
     refine wpAnyH_take (i := 14) (by rfl) (by kernel_rfl) (by kernel_rfl) (by kernel_rfl) (by intro _ _ _ h; exact h) (Or.inr ⟨by kernel_rfl, rfl⟩) (by assumption) ?rest29
     change wpAnyH _ _ _ _ _ _ _ (Act.put _ (some 97) _) _
     try simp only [Act.put, List.setIfInBounds_toArray, List.set_cons_zero, List.set_cons_succ]
     refine tq 15 98 ?_
     refine tq 16 99 ?_
     refine wpAnyH_take (i := 17) (by rfl) (by kernel_rfl) (by kernel_rfl) (by kernel_rfl) (by intro _ _ _ h; exact h) (Or.inr ⟨by kernel_rfl, rfl⟩) (by assumption) ?rest32
     change wpAnyH _ _ _ _ _ _ _ (Act.put _ (some 100) _) _
     try simp only [Act.put, List.setIfInBounds_toArray, List.set_cons_zero, List.set_cons_succ]
     refine wpAnyH_take (i := 18) (by rfl) (by kernel_rfl) (by kernel_rfl) (by kernel_rfl) (by intro _ _ _ h; exact h) (Or.inr ⟨by kernel_rfl, rfl⟩) (by assumption) ?rest33
     change wpAnyH _ _ _ _ _ _ _ (Act.put _ (some 101) _) _
     try simp only [Act.put, List.setIfInBounds_toArray, List.set_cons_zero, List.set_cons_succ]
     refine wpAnyH_take (i := 19) (by rfl) (by kernel_rfl) (by kernel_rfl) (by kernel_rfl) (by intro _ _ _ h; exact h) (Or.inr ⟨by kernel_rfl, rfl⟩) (by assumption) ?rest34
     change wpAnyH _ _ _ _ _ _ _ (Act.put _ (some 102) _) _
     try simp only [Act.put, List.setIfInBounds_toArray, List.set_cons_zero, List.set_cons_succ]
     refine tq 20 103 ?_
     refine wpAnyH_done (by kernel_rfl) ?_ _
     refine NoPanic.normal ?_
     go_wp2_with fail
     go_meet
     exact ⟨by rw [HNK.out], hHeld⟩
    | false =>
    have hσ : σ = some a := by
     cases σ with
     | none => have := HBAD.out.1.2 rfl; simp at this
     | some x => rw [HBAD.out.2 x rfl]
    by_cases hal2 : a = y0.length
    ·have e1 : ((a : Int) != (y0.length : Int)) = false := by simp [hal2]
     have HNK := Lib.hid (show nok = !eb from by rw [← HNOK.out, HOK.out, hσ, hal2]; simp)
     clear hσ hal2
     refine wp_region_noPanic ?_
     refine wp_region_held_drew (S := fun w' => Keeps wy w') (by kernel_rfl) (((Keeps.refl wy).drew)) (fun _ => ?_)
     have hHeld : Keeps wy (wy).drew := ((Keeps.refl wy).drew)
     generalize World.drew wy = xs at *
     refine tq 0 83 ?_
     refine tq 1 84 ?_
     refine tq 2 85 ?_
     refine tq 3 86 ?_ (hy := fun w' hSw => by
      have hSw : Keeps wy w' := hSw
      have hx := keep1 hSw g2
      clear hSw
      go_simp
      try with_reducible rfl)
     refine tq 4 87 ?_
     refine tq 5 88 ?_
     refine tq 6 89 ?_
     refine tq 7 90 ?_
     refine tq 8 91 ?_ (hy := fun w' hSw => by
      have hSw : Keeps wy w' := hSw
      have hx := keep1 hSw g1
      clear hSw
      go_simp
      try with_reducible rfl)
     refine tq 9 92 ?_
     refine tq 10 93 ?_
     refine tq 11 94 ?_
     refine tq 12 95 ?_ (hy := fun w' hSw => by
      have hSw : Keeps wy w' := hSw
      have hx := keep1 hSw g0
      clear hSw
      go_simp
      try with_reducible rfl)
     refine tq 13 96 ?_
     refine tq 14 97 ?_
     refine tq 15 98 ?_
     refine tq 16 99 ?_
     refine wpAnyH_take (i := 17) (by rfl) (by kernel_rfl) (by kernel_rfl) (by kernel_rfl) (by intro _ _ _ h; exact h) (yieldsIf_ld (by kernel_rfl) jobM (fun w' hS => HJB.out.keeps hS) _ rfl rfl) (by assumption) ?rest53
     change wpAnyH _ _ _ _ _ _ _ (Act.put _ (some 100) _) _
     try simp only [Act.put, List.setIfInBounds_toArray, List.set_cons_zero, List.set_cons_succ]
     refine rd1 18 (fun K hK => ?_)
     go_simp
     refine (HGV.out _ (rowS_own (ownsRow_keeps HTO.out hHeld))).mono ?_
     rintro e zg ⟨rfl, hk⟩
     have hb := hHeld.trans hk
     clear hk
     go_wp2_with fail
     refine bkm hK hb ?_
     clear hK K hHeld
     have hHeld : Keeps wy zg := hb
     clear hb
     refine tq 19 102 ?_
     refine tq 20 103 ?_
     refine wpAnyH_done (by kernel_rfl) ?_ _
     refine NoPanic.normal ?_
     go_wp2_with fail
     go_meet
     exact ⟨by rw [HNK.out], hHeld⟩
    ·have e1 : ((a : Int) != (y0.length : Int)) = true := by simp; omega
     have HNK := Lib.hid (show nok = true from by rw [← HNOK.out, HOK.out, hσ]; simp [hal2])
     clear hσ hal2
     refine wp_region_noPanic ?_
     refine wp_region_held_drew (S := fun w' => Keeps wy w') (by kernel_rfl) (((Keeps.refl wy).drew)) (fun _ => ?_)
     have hHeld : Keeps wy (wy).drew := ((Keeps.refl wy).drew)
     generalize World.drew wy = xs at *
     refine tq 0 83 ?_
     refine tq 1 84 ?_
     refine tq 2 85 ?_
     refine tq 3 86 ?_ (hy := fun w' hSw => by
      have hSw : Keeps wy w' := hSw
      have hx := keep1 hSw g2
      clear hSw
      go_simp
      try with_reducible rfl)
     refine tq 4 87 ?_
     refine tq 5 88 ?_
     refine tq 6 89 ?_
     refine tq 7 90 ?_
     refine tq 8 91 ?_ (hy := fun w' hSw => by
      have hSw : Keeps wy w' := hSw
      have hx := keep1 hSw g1
      clear hSw
      go_simp
      try with_reducible rfl)
     refine tq 9 92 ?_
     refine tq 10 93 ?_
     refine tq 11 94 ?_
     refine tq 12 95 ?_ (hy := fun w' hSw => by
      have hSw : Keeps wy w' := hSw
      have hx := keep1 hSw g0
      clear hSw
      go_simp
      try with_reducible rfl)
     refine tq 13 96 ?_
     refine tq 14 97 ?_
     refine tq 15 98 ?_
     refine tq 16 99 ?_
     refine wpAnyH_take (i := 17) (by rfl) (by kernel_rfl) (by kernel_rfl) (by kernel_rfl) (by intro _ _ _ h; exact h) (Or.inr ⟨by kernel_rfl, rfl⟩) (by assumption) ?rest73
     change wpAnyH _ _ _ _ _ _ _ (Act.put _ (some 100) _) _
     try simp only [Act.put, List.setIfInBounds_toArray, List.set_cons_zero, List.set_cons_succ]
     refine wpAnyH_take (i := 18) (by rfl) (by kernel_rfl) (by kernel_rfl) (by kernel_rfl) (by intro _ _ _ h; exact h) (Or.inr ⟨by kernel_rfl, rfl⟩) (by assumption) ?rest74
     change wpAnyH _ _ _ _ _ _ _ (Act.put _ (some 101) _) _
     try simp only [Act.put, List.setIfInBounds_toArray, List.set_cons_zero, List.set_cons_succ]
     refine wpAnyH_take (i := 19) (by rfl) (by kernel_rfl) (by kernel_rfl) (by kernel_rfl) (by intro _ _ _ h; exact h) (Or.inr ⟨by kernel_rfl, rfl⟩) (by assumption) ?rest75
     change wpAnyH _ _ _ _ _ _ _ (Act.put _ (some 102) _) _
     try simp only [Act.put, List.setIfInBounds_toArray, List.set_cons_zero, List.set_cons_succ]
     refine tq 20 103 ?_
     refine wpAnyH_done (by kernel_rfl) ?_ _
     refine NoPanic.normal ?_
     go_wp2_with fail
     go_meet
     exact ⟨by rw [HNK.out], hHeld⟩
   case rest =>
   obtain ⟨rfl, hkc⟩ := hcut
   have HTc := Lib.hid (HT.out.kept hkc)
   have hn20 : nok = false → T.length ≤ 20 := fun h => by
    rw [h] at HNOK
    have h1 := HNOK.out
    rw [HOK.out] at h1
    simp only [Bool.not_eq_false', Bool.and_eq_true] at h1
    exact envB_len h1.2
   have HOKE := Lib.hid (show envOk (envR mT m63 m63 y0) y0 = !nok from by rw [← HNOK.out]; simp)
   clear HT HR hkc HNOK HOK HSH hlen
   cases nok with
   | true =>
    have HR := Lib.hid (show R = (noJob, 0, 12) from by rw [HR2.out, if_neg (by rw [HOKE.out]; simp)])
    go_wp2_with (refine wpList_st (ds := #[.int .i64 0, .int .i64 0, .string (bstr []), .string (bstr []), .slice none 0 0, .slice none 0 0, .slice none 0 0, .int .i64 0, .int .i64 12]) rfl gotM HTc.out.res rfl (by simp [Value.oneCell']) _ _ rfl rfl rfl rfl ?_; intro yF hBF hMF; have FF := Lib.hid (show yF.cell? ⟨Rb, 0, none⟩ = some (.int .i64 0) ∧ yF.cell? ⟨Rb, 1, none⟩ = some (.int .i64 0) ∧ yF.cell? ⟨Rb, 2, none⟩ = some (.string (bstr [])) ∧ yF.cell? ⟨Rb, 3, none⟩ = some (.string (bstr [])) ∧ yF.cell? ⟨Rb, 4, none⟩ = some (.slice none 0 0) ∧ yF.cell? ⟨Rb, 5, none⟩ = some (.slice none 0 0) ∧ yF.cell? ⟨Rb, 6, none⟩ = some (.slice none 0 0) ∧ yF.cell? ⟨Rb, 7, none⟩ = some (.int .i64 0) ∧ yF.cell? ⟨Rb, 8, none⟩ = some (.int .i64 12) from ⟨by rw [hBF.cell]; rfl, by rw [hBF.cell]; rfl, by rw [hBF.cell]; rfl, by rw [hBF.cell]; rfl, by rw [hBF.cell]; rfl, by rw [hBF.cell]; rfl, by rw [hBF.cell]; rfl, by rw [hBF.cell]; rfl, by rw [hBF.cell]; rfl⟩); have HKF := Lib.hid (hMF.keeps HTc.out.rd.keeps (fun x hx => by rw [hx]; exact HRW.out)); clear hBF hMF)
    exact bodyPost_ret (v := .agg #[.int .i64 0, .int .i64 0, .string (bstr []), .string (bstr []), .slice none 0 0, .slice none 0 0, .slice none 0 0, .int .i64 0, .int .i64 12]) (by simp [results, Try.results8, go_sem, FF.out.1, FF.out.2.1, FF.out.2.2.1, FF.out.2.2.2.1, FF.out.2.2.2.2.1, FF.out.2.2.2.2.2.1, FF.out.2.2.2.2.2.2.1, FF.out.2.2.2.2.2.2.2.1, FF.out.2.2.2.2.2.2.2.2]) rfl ⟨_, _, _, by rw [HR.out]; rfl, by rw [HR.out]; exact job0_at _, HKF.out⟩
   | false =>
   have htl := hn20 rfl
   have HR3 := Lib.hid (show R = (⟨ci, ca, xf, xd, T, (stepsR2 T.length ((F.map (·.1)).drop 2) (List.replicate T.length (freshS ca))).1, y1⟩, n0 + n1 + (stepsR2 T.length ((F.map (·.1)).drop 2) (List.replicate T.length (freshS ca))).2, 0) from by
    rw [HR2.out, if_pos (by rw [HOKE.out]; rfl), HEN.out])
   have hi20 : i ≤ 20 := by have := HLI.out; omega
   clear hn20 HR2 HEN HOKE HFL
   go_wp2_with fail
   go_loopw [9] (fun kv wr => ∃ (k : Nat) (vs : Value), kv = .int .i64 (k : Int) ∧ k ≤ i ∧ Hid (RfSt w wr J Rb base ci ca xf xd (.slice po T.length co) T vs (List.replicate k (freshS ca)) (.slice none 0 0) [] (.slice (some ⟨b, off, none⟩) F.length c1) F)) (fun kv _ => i - (intOf kv).toNat)
   case atStart => exact ⟨0, _, rfl, Nat.zero_le _, HTc⟩
   case round =>
    obtain ⟨k, vs, rfl, hk, HT⟩ := hrel
    obtain ⟨wz, rfl⟩ : ∃ z : World, z = wr := ⟨_, rfl⟩
    by_cases hlt : k < i
    ·have hw : IntKind.i64.wrap ((k : Int) + 1) = (k : Int) + 1 := IntWalk.i64_in _ (by omega)
     as_aux_lemma =>
     obtain ⟨S, hS⟩ : ∃ S, List.replicate k (freshS ca) = S := ⟨_, rfl⟩
     have HSN := Lib.hid (show List.replicate (k + 1) (freshS ca) = S ++ [freshS ca] from by rw [← hS, List.replicate_succ'])
     have hsl : S.length ≤ 20 := by rw [← hS, List.length_replicate]; omega
     rw [hS] at HT
     clear hS
     obtain ⟨ps, cs, rfl, -, -⟩ := ownsRow_form HT.out.rd.sts
     have j5 : wz.cell? ⟨J, 5, none⟩ = some (.slice ps S.length cs) := by rw [HT.out.rd.job.cell]; rfl
     have j1 : wz.cell? ⟨J, 1, none⟩ = some (.int .i64 ca) := by rw [HT.out.rd.job.cell]; rfl
     have hwz : w.heap.size ≤ (wz.alloc (.cells #[.int .i64 0, .int .i64 0, .int .i64 ca, .int .i64 0] 44)).heap.size := (HT.out.rd.keeps.alloc _).size
     go_upto_region 17 with (at_builtin; refine wpList_apps (base := w.heap.size) stok (by decide) rfl _ _ rfl (.slice ps S.length cs) (.slice (some ⟨wz.heap.size, 0, none⟩) 1 1) S.length 1 (S.flatMap stC) (stC (freshS ca)) rfl rfl (ownsRow_keeps HT.out.rd.sts ((Keeps.refl _).alloc _)) (rowS_lit rfl rfl rfl) (by simp [stC, Value.oneCell']) (by omega) (by decide) hwz ?_; intro v7 w7 ho7 hg7 hf7; obtain ⟨p7, c7, rfl, -, -⟩ := ownsRow_form ho7; have HT7 := Lib.hid (HT.out.grownS (x := freshS ca) ((Keeps.refl _).alloc _) hg7 ho7); have hB7 := ((HT.out.kept ((Keeps.refl _).alloc (.cells #[.int .i64 0, .int .i64 0, .int .i64 ca, .int .i64 0] 44))).rd.job).grown hg7 (ownsRow_ne HT.out.rd.sts HT.out.rd.job (by decide)); have j7 : w7.cell? ⟨J, 5, none⟩ = some (.slice ps S.length cs) := by { rw [hB7.cell]; rfl }; have f7 : w7.frozen? ⟨J, 5, none⟩ = false := hB7.frozen _; clear ho7 hg7 hf7 hB7)
     generalize w7.setCell ⟨J, 5, none⟩ (.slice p7 (S.length + 1) c7) = w8 at *
     have HT8 := Lib.hid (show RfSt w w8 J Rb base ci ca xf xd (.slice po T.length co) T (.slice p7 (S.length + 1) c7) (List.replicate (k + 1) (freshS ca)) (.slice none 0 0) [] (.slice (some ⟨b, off, none⟩) F.length c1) F from by rw [HSN.out]; exact HT7.out)
     clear j5 j1 j7 f7 hwz HT7 HT HSN
     go_wp2_with fail
     go_roundw
     case rel => exact ⟨k + 1, _, by simp, by omega, HT8⟩
     case measure =>
      simp only [intOf]
      omega
    ·have hki : k = i := by omega
     subst hki
     have hlt' : ¬ (k : Int) < (k : Int) := by omega
     rw [← HLI.out] at HT
     generalize hS0 : List.replicate T.length (freshS ca) = S0 at *
     have HSL := Lib.hid (show S0.length = T.length from by rw [← hS0, List.length_replicate])
     clear hS0 hlt
     obtain ⟨ps, cs, hvs, -, -⟩ := ownsRow_form HT.out.rd.sts
     rw [HSL.out] at hvs
     subst hvs
     have hpay1 := HT.out.rd.fr.pay F[1] (List.getElem_mem hl1)
     have HM0 := Lib.hid (show (wz.cell? ⟨b, off + 1, none⟩ = some (.int .i64 n0) ∧ wz.cell? ⟨b, off + 4 + 1, none⟩ = some (.int .i64 n1)) ∧ wz.cell? ⟨b, off + 4 + 3, none⟩ = some (.slice pz1 y1.length cz1) from by
      obtain ⟨b2, off2, cap2, hv2, h0⟩ := HT.out.rd.fr.at_ hl0
      obtain ⟨b3, off3, cap3, hv3, h1⟩ := HT.out.rd.fr.at_ hl1
      simp only [Value.slice.injEq, Option.some.injEq, Addr.mk.injEq] at hv2 hv3
      obtain ⟨⟨rfl, rfl, -⟩, -, -⟩ := hv2
      obtain ⟨⟨rfl, rfl, -⟩, -, -⟩ := hv3
      rw [HXE.out.1] at h0
      rw [HXE.out.2] at h1
      exact ⟨⟨h0 1 _ rfl, by have := h1 1 _ rfl; rwa [Nat.one_mul] at this⟩, by have := h1 3 _ rfl; rwa [Nat.one_mul] at this⟩)
     rw [HXE.out.2] at hpay1
     have HP1 := Lib.hid (show Piece wz base 5 (.slice pz1 y1.length cz1) (y1.map u8v) from hpay1)
     have m3 := HM0.out.2
     have j6 : wz.cell? ⟨J, 6, none⟩ = some (.slice none 0 0) := by rw [HT.out.rd.job.cell]; rfl
     have f6 : wz.frozen? ⟨J, 6, none⟩ = false := HT.out.rd.job.frozen _
     have HT2 := Lib.hid (HT.out.newB HP1.out)
     have hbJ : b ≠ J := fun e => by
      obtain ⟨cs', fr, hh⟩ := HT.out.rd.fr.ty b off F.length c1 rfl hl0
      exact blk_ty HT.out.rd.job (e := 53) (by decide) cs' fr (by rw [← e]; exact hh)
     have HM1 := Lib.hid (show (wz.setCell ⟨J, 6, none⟩ (.slice pz1 y1.length cz1)).cell? ⟨b, off + 1, none⟩ = some (.int .i64 n0) ∧ (wz.setCell ⟨J, 6, none⟩ (.slice pz1 y1.length cz1)).cell? ⟨b, off + 4 + 1, none⟩ = some (.int .i64 n1) from
      ⟨((Mods.refl (· = J) wz).setCell (p := ⟨J, 6, none⟩) (fun _ => rfl) _).cell HM0.out.1.1 hbJ, ((Mods.refl (· = J) wz).setCell (p := ⟨J, 6, none⟩) (fun _ => rfl) _).cell HM0.out.1.2 hbJ⟩)
     have hl1' : (1 : Int) < (F.length : Int) := by omega
     clear hpay1 hbJ
     go_upto_region 20 with fail
     generalize wz.setCell ⟨J, 6, none⟩ (.slice pz1 y1.length cz1) = w5 at *
     have m0 := HM1.out.1
     have m1 := HM1.out.2
     clear m3 j6 f6 HM0 HP1 HT
     have HT3 := Lib.hid HT2.out
     clear HT2
     go_wp2_with fail
     have HGL := Lib.hid (show (F.map (·.1)).length = F.length from by rw [List.length_map])
     have hnn : 0 ≤ lenS ((F.map (·.1)).drop 2) := lenS_nn (fun f hf => HNN.out f hf)
     have hn0 := HLN.out.1
     have hn1 := HLN.out.2.1
     have hns := HLN.out.2.2
     have hwn : IntKind.i64.wrap (n0 + n1) = n0 + n1 := IntWalk.i64_in _ (by omega)
     have HI0 := Lib.hid (And.intro (show 0 ≤ n0 + n1 by omega) hns)
     clear hnn hn0 hn1 hns
     refine wp_region_noPanic ?_
     refine wp_region_held_drew (S := fun w' => Keeps w5 w') (by kernel_rfl) (((Keeps.refl w5).drew)) (fun _ => ?_)
     have hHeld : Keeps w5 (w5).drew := ((Keeps.refl w5).drew)
     generalize World.drew w5 = xs at *
     refine tq 0 123 ?_
     refine tq 1 124 ?_
     refine tq 2 125 ?_
     refine tq 3 126 ?_ (hy := fun w' hSw => by
      have hSw : Keeps w5 w' := hSw
      have hx := keep1 hSw m0
      clear hSw
      go_simp
      try with_reducible rfl)
     refine tq 4 127 ?_
     refine tq 5 128 ?_
     refine tq 6 129 ?_
     refine tq 7 130 ?_ (hy := fun w' hSw => by
      have hSw : Keeps w5 w' := hSw
      have hx := keep1 hSw m1
      clear hSw
      go_simp
      try with_reducible rfl)
     refine tq 8 131 ?_
     refine tq 9 10 ?_
     refine wpAnyH_done (by kernel_rfl) ?_ _
     refine NoPanic.normal ?_
     have HT4 := Lib.hid (HT3.out.kept hHeld)
     clear hHeld m0 m1 HT3 hl1' HM1
     go_wp2_with fail
     go_loopw [10, 11] (fun uv iv wx => ∃ (m : Nat) (u : Int) (S : List StP) (qs : Option Addr) (ks : Nat), uv = .int .i64 u ∧ iv = .int .i64 (m : Int) ∧ 2 ≤ m ∧ m ≤ F.length ∧ Hid (RfSt w wx J Rb base ci ca xf xd (.slice po T.length co) T (.slice qs T.length ks) S (.slice pz1 y1.length cz1) y1 (.slice (some ⟨b, off, none⟩) F.length c1) F) ∧ Hid (S.length = T.length) ∧
      Hid (stepsR2 T.length ((F.map (·.1)).drop 2) S0 = ((stepsR2 T.length ((F.map (·.1)).drop m) S).1, (u - (n0 + n1)) + (stepsR2 T.length ((F.map (·.1)).drop m) S).2)) ∧ Hid (0 ≤ u ∧ u + lenS ((F.map (·.1)).drop m) ≤ (l.length : Int))) (fun _ iv _ => F.length - (intOf iv).toNat)
     case atStart => exact ⟨2, n0 + n1, S0, ps, cs, rfl, rfl, Nat.le_refl _, hl2, HT4, HSL, Lib.hid (by simp), HI0⟩
     case round =>
      obtain ⟨m, u, S, qs, ks, rfl, rfl, hm2, hm, HT, HSS, HST, HU⟩ := hrel
      obtain ⟨wt, rfl⟩ : ∃ z : World, z = wr := ⟨_, rfl⟩
      by_cases hlt : m < F.length
      ·have hw : IntKind.i64.wrap ((m : Int) + 1) = (m : Int) + 1 := IntWalk.i64_in _ (by omega)
       have HDC := Lib.hid (show (F.map (·.1)).drop m = F[m].1 :: (F.map (·.1)).drop (m + 1) from by
        rw [List.drop_eq_getElem_cons (by rw [List.length_map]; exact hlt)]
        simp)
       have HNI := Lib.hid (show 0 ≤ F[m].1.len ∧ 0 ≤ lenS ((F.map (·.1)).drop (m + 1)) from by
        have h2 : ∀ f ∈ (F.map (·.1)).drop m, 0 ≤ f.len := fun f hf => HNN.out f (by
         have : (F.map (·.1)).drop m = ((F.map (·.1)).drop 2).drop (m - 2) := by rw [List.drop_drop]; congr 1; omega
         rw [this] at hf
         exact List.mem_of_mem_drop hf)
        rw [HDC.out] at h2
        exact ⟨h2 _ (List.mem_cons_self ..), lenS_nn (fun f hf => h2 f (List.mem_cons_of_mem _ hf))⟩)
       rw [HDC.out] at HST HU
       rw [lenS_cons] at HU
       have HPF := Lib.hid (And.intro (HT.out.rd.fr.pay _ (List.getElem_mem hlt)) (HYA.out _ (List.getElem_mem hlt)))
       have HCF : Hid (∀ wz, FrmsR wz base (.slice (some ⟨b, off, none⟩) F.length c1) F → wz.rangeAt b (off + m * 4) (frC F[m])) := Lib.hid (fun wz h => by
        obtain ⟨b2, off2, cap2, hv2, h0⟩ := h.at_ hlt
        simp only [Value.slice.injEq, Option.some.injEq, Addr.mk.injEq] at hv2
        obtain ⟨⟨rfl, rfl, -⟩, -, -⟩ := hv2
        exact h0)
       generalize F[m] = z at *
       obtain ⟨⟨fa, fn, fk, fp⟩, fv⟩ := z
       obtain ⟨pf, cf, hz, -, -⟩ := HPF.out.1.form
       simp only [List.length_map] at hz
       subst hz
       simp only at HST HU HNI HPF
       have hfp : fp.length ≤ 1000000 := Nat.le_trans HPF.out.2 hl
       have hu0 := HU.out.1
       have hu1 := HU.out.2
       have hu2 := HNI.out.1
       have hu3 := HNI.out.2
       have hwu : IntKind.i64.wrap (u + fn) = u + fn := IntWalk.i64_in _ (by omega)
       have HU2 := Lib.hid (show 0 ≤ u + fn ∧ u + fn + lenS ((F.map (·.1)).drop (m + 1)) ≤ (l.length : Int) from by omega)
       clear hu0 hu1 hu2 hu3 HDC HNI HU
       have hba := uR_lt fp 1 (by omega) (some 0)
       generalize hxa : (uR fp 1 (some 0)).1 = va at *
       generalize hsa : (uR fp 1 (some 0)).2 = qa at *
       have hbb := uR_lt fp 1 (by omega) (qa)
       generalize hxb : (uR fp 1 (qa)).1 = vb at *
       generalize hsb : (uR fp 1 (qa)).2 = qb at *
       have hbd := uR_lt fp 2 (by omega) (qb)
       generalize hxd : (uR fp 2 (qb)).1 = vd at *
       generalize hsd : (uR fp 2 (qb)).2 = qd at *
       have hbe := uR_lt fp 8 (by omega) (qd)
       generalize hxe : (uR fp 8 (qd)).1 = ve at *
       generalize hse : (uR fp 8 (qd)).2 = qe at *
       have hbf := uR_lt fp 2 (by omega) (qe)
       generalize hxf : (uR fp 2 (qe)).1 = vf at *
       generalize hsf : (uR fp 2 (qe)).2 = qf at *
       simp only [Nat.reducePow] at hba hbb hbd hbe hbf
       have hca' : capI m63 va = (va : Int) := by unfold capI m63; rw [if_pos (by omega)]
       have hcb' : capI m63 vb = (vb : Int) := by unfold capI m63; rw [if_pos (by omega)]
       have hcd' : capI m63 vd = (vd : Int) := by unfold capI m63; rw [if_pos (by omega)]
       have hcf' : capI m63 vf = (vf : Int) := by unfold capI m63; rw [if_pos (by omega)]
       obtain ⟨ce, hce⟩ : ∃ c, capI m63 ve = c := ⟨_, rfl⟩
       have HEC := Lib.hid (And.intro hca' (And.intro hcb' (And.intro hcd' (And.intro hce hcf'))))
       have HEX := Lib.hid (And.intro hxa (And.intro hsa (And.intro hxb (And.intro hsb (And.intro hxd (And.intro hsd (And.intro hxe (And.intro hse (And.intro hxf hsf)))))))))
       have HSR := Lib.hid (show stR m63 fp = ((va, ⟨(vb : Int), (vd : Int), ce, (vf : Int)⟩), qf) from by
        unfold stR
        simp only [hxa, hsa, hxb, hsb, hxd, hsd, hxe, hse, hxf, hsf, hce])
       clear hxa hsa hxb hsb hxd hsd hxe hse hxf hsf hce hca' hcb' hcd' hcf'
       have k3 : wt.cell? ⟨b, off + m * 4 + 3, none⟩ = some (.slice pf fp.length cf) := HCF.out _ HT.out.rd.fr 3 _ rfl
       go_upto_region 25 with fail
       obtain ⟨q, hq⟩ : ∃ q, q = wt.heap.size := ⟨_, rfl⟩
       have HQ0 := Lib.hid (show RrAt (wt.alloc (.cells #[.slice pf fp.length cf, .int .i64 0, .bool false] 63)) q base (.slice pf fp.length cf) fp (some 0) from ⟨0, false, Blk.new _ _ _ hq, by simp, by simp, Nat.zero_le _, by omega, HPF.out.1.keeps ((Keeps.refl _).alloc _)⟩)
       have HQW := Lib.hid (show w.heap.size ≤ q from by rw [hq]; exact HT.out.rd.keeps.size)
       have HV0 := Lib.hid (HT.out.kept ((Keeps.refl wt).alloc (.cells #[.slice pf fp.length cf, .int .i64 0, .bool false] 63)))
       rw [← hq]
       generalize wt.alloc (.cells #[.slice pf fp.length cf, .int .i64 0, .bool false] 63) = t0 at *
       clear hq k3 HT
       go_wp2_with fail
       refine (rnum_any _ q base _ fp _ HQ0.out 1 1 rfl (by omega)).mono ?_
       rintro e t1 ⟨rfl, hrd, hm'⟩
       rw [HEX.out.2.1] at hrd
       rw [HEX.out.1, HEC.out.1]
       have HQ1 := Lib.hid hrd
       have HV1 := Lib.hid (HV0.out.away hm' (fun x hx => by rw [hx]; exact HQW.out) (apart_rd HQ0.out))
       clear hrd hm' HQ0 HV0
       go_wp2_with fail
       refine (rnum_any _ q base _ fp _ HQ1.out 1 1 rfl (by omega)).mono ?_
       rintro e t2 ⟨rfl, hrd, hm'⟩
       rw [HEX.out.2.2.2.1] at hrd
       rw [HEX.out.2.2.1, HEC.out.2.1]
       have HQ2 := Lib.hid hrd
       have HV2 := Lib.hid (HV1.out.away hm' (fun x hx => by rw [hx]; exact HQW.out) (apart_rd HQ1.out))
       clear hrd hm' HQ1 HV1
       go_wp2_with fail
       refine (rnum_any _ q base _ fp _ HQ2.out 2 2 rfl (by omega)).mono ?_
       rintro e t3 ⟨rfl, hrd, hm'⟩
       rw [HEX.out.2.2.2.2.2.1] at hrd
       rw [HEX.out.2.2.2.2.1, HEC.out.2.2.1]
       have HQ3 := Lib.hid hrd
       have HV3 := Lib.hid (HV2.out.away hm' (fun x hx => by rw [hx]; exact HQW.out) (apart_rd HQ2.out))
       clear hrd hm' HQ2 HV2
       go_wp2_with fail
       refine (rnum_any _ q base _ fp _ HQ3.out 8 8 rfl (by omega)).mono ?_
       rintro e t4 ⟨rfl, hrd, hm'⟩
       rw [HEX.out.2.2.2.2.2.2.2.1] at hrd
       rw [HEX.out.2.2.2.2.2.2.1, HEC.out.2.2.2.1]
       have HQ4 := Lib.hid hrd
       have HV4 := Lib.hid (HV3.out.away hm' (fun x hx => by rw [hx]; exact HQW.out) (apart_rd HQ3.out))
       clear hrd hm' HQ3 HV3
       go_wp2_with fail
       refine (rnum_any _ q base _ fp _ HQ4.out 2 2 rfl (by omega)).mono ?_
       rintro e t5 ⟨rfl, hrd, hm'⟩
       rw [HEX.out.2.2.2.2.2.2.2.2.2] at hrd
       rw [HEX.out.2.2.2.2.2.2.2.2.1, HEC.out.2.2.2.2]
       have HQ5 := Lib.hid hrd
       have HV5 := Lib.hid (HV4.out.away hm' (fun x hx => by rw [hx]; exact HQW.out) (apart_rd HQ4.out))
       clear hrd hm' HQ4 HV4
       go_upto_region 27 with fail
       obtain ⟨sb, hsb⟩ : ∃ z, z = t5.heap.size := ⟨_, rfl⟩
       have HSB := Lib.hid (show Blk (t5.alloc (.cells #[.int .i64 (vb : Int), .int .i64 (vd : Int), .int .i64 ce, .int .i64 (vf : Int)] 44)) sb 44 #[.int .i64 (vb : Int), .int .i64 (vd : Int), .int .i64 ce, .int .i64 (vf : Int)] from Blk.new _ _ _ hsb)
       have HQ6 := Lib.hid (HQ5.out.kept ((Keeps.refl _).alloc (.cells #[.int .i64 (vb : Int), .int .i64 (vd : Int), .int .i64 ce, .int .i64 (vf : Int)] 44)))
       have HV6 := Lib.hid (HV5.out.kept ((Keeps.refl _).alloc (.cells #[.int .i64 (vb : Int), .int .i64 (vd : Int), .int .i64 ce, .int .i64 (vf : Int)] 44)))
       rw [← hsb]
       generalize t5.alloc (.cells #[.int .i64 (vb : Int), .int .i64 (vd : Int), .int .i64 ce, .int .i64 (vf : Int)] 44) = t6 at *
       clear HQ5 HV5 hsb
       obtain ⟨gb, hgb⟩ : ∃ b, goodStB (⟨(vb : Int), (vd : Int), ce, (vf : Int)⟩ : StP) = b := ⟨_, rfl⟩
       have HGB := Lib.hid hgb
       obtain ⟨brk, hbrk⟩ : ∃ b, (!(decide (fk = 18) && (decide (qf = some fp.length) && decide (va < T.length) && gb))) = b := ⟨_, rfl⟩
       have HBK := Lib.hid hbrk
       clear hbrk hgb
       go_cut [189] (fun t wx => t = .bool brk ∧ Keeps t6 wx)
       case first =>
        as_aux_lemma =>
        obtain ⟨a, bad, hB, hbad, ha, hal, hll, hP⟩ := HQ6.out
        have HBAD := Lib.hid (And.intro hbad ha)
        have g0 : t6.cell? ⟨q, 0, none⟩ = some (.slice pf fp.length cf) := by rw [hB.cell]; rfl
        have g1 : t6.cell? ⟨q, 1, none⟩ = some (.int .i64 (a : Int)) := by rw [hB.cell]; rfl
        have g2 : t6.cell? ⟨q, 2, none⟩ = some (.bool bad) := by rw [hB.cell]; rfl
        have k2 : t6.cell? ⟨b, off + m * 4 + 2, none⟩ = some (.int .i64 fk) := HCF.out _ HV6.out.rd.fr 2 _ rfl
        have HGC : Hid (∀ wz, Calls Try.prog 24 #[.agg #[.int .i64 (vb : Int), .int .i64 (vd : Int), .int .i64 ce, .int .i64 (vf : Int)]] wz fun e w' => e = .returned (.bool gb) ∧ Keeps wz w') := Lib.hid (fun wz => by have h := rgoodState_any (⟨(vb : Int), (vd : Int), ce, (vf : Int)⟩ : StP) wz; rw [HGB.out] at h; exact h)
        clear hB hbad ha hP HQ6 HV6 HGB
        by_cases hk8 : fk = 18
        ·have ek : (fk != 18) = false := by simp [hk8]
         cases bad with
         | true =>
          have hσ : qf = none := HBAD.out.1.1 rfl
          have HNK := Lib.hid (show brk = true from by rw [← HBK.out, hσ]; simp)
          clear hσ hk8
          refine wp_region_noPanic ?_
          refine wp_region_held_drew (S := fun w' => Keeps t6 w') (by kernel_rfl) (((Keeps.refl t6).drew)) (fun _ => ?_)
          have hHeld : Keeps t6 (t6).drew := ((Keeps.refl t6).drew)
          generalize World.drew t6 = xs at *
          refine tq 0 156 ?_
          refine tq 1 157 ?_
          refine tq 2 158 ?_
          refine tq 3 159 ?_
          refine tq 4 160 ?_ (hy := fun w' hSw => by
           have hSw : Keeps t6 w' := hSw
           have hx := keep1 hSw k2
           clear hSw
           go_simp
           try with_reducible rfl)
          refine tq 5 161 ?_
          refine tq 6 162 ?_
          refine tq 7 163 ?_
          refine tq 8 164 ?_
          refine tq 9 165 ?_
          refine tq 10 166 ?_ (hy := fun w' hSw => by
           have hSw : Keeps t6 w' := hSw
           have hx := keep1 hSw g2
           clear hSw
           go_simp
           try with_reducible rfl)
          refine tq 11 167 ?_
          refine tq 12 168 ?_
          refine wpAnyH_take (i := 13) (by rfl) (by kernel_rfl) (by kernel_rfl) (by kernel_rfl) (by intro _ _ _ h; exact h) (Or.inr ⟨by kernel_rfl, rfl⟩) (by assumption) ?rest100
          change wpAnyH _ _ _ _ _ _ _ (Act.put _ (some 169) _) _
          try simp only [Act.put, List.setIfInBounds_toArray, List.set_cons_zero, List.set_cons_succ]
          refine wpAnyH_take (i := 14) (by rfl) (by kernel_rfl) (by kernel_rfl) (by kernel_rfl) (by intro _ _ _ h; exact h) (Or.inr ⟨by kernel_rfl, rfl⟩) (by assumption) ?rest101
          change wpAnyH _ _ _ _ _ _ _ (Act.put _ (some 170) _) _
          try simp only [Act.put, List.setIfInBounds_toArray, List.set_cons_zero, List.set_cons_succ]
          refine wpAnyH_take (i := 15) (by rfl) (by kernel_rfl) (by kernel_rfl) (by kernel_rfl) (by intro _ _ _ h; exact h) (Or.inr ⟨by kernel_rfl, rfl⟩) (by assumption) ?rest102
          change wpAnyH _ _ _ _ _ _ _ (Act.put _ (some 171) _) _
          try simp only [Act.put, List.setIfInBounds_toArray, List.set_cons_zero, List.set_cons_succ]
          refine wpAnyH_take (i := 16) (by rfl) (by kernel_rfl) (by kernel_rfl) (by kernel_rfl) (by intro _ _ _ h; exact h) (Or.inr ⟨by kernel_rfl, rfl⟩) (by assumption) ?rest103
          change wpAnyH _ _ _ _ _ _ _ (Act.put _ (some 172) _) _
          try simp only [Act.put, List.setIfInBounds_toArray, List.set_cons_zero, List.set_cons_succ]
          refine wpAnyH_take (i := 17) (by rfl) (by kernel_rfl) (by kernel_rfl) (by kernel_rfl) (by intro _ _ _ h; exact h) (Or.inr ⟨by kernel_rfl, rfl⟩) (by assumption) ?rest104
          change wpAnyH _ _ _ _ _ _ _ (Act.put _ (some 173) _) _
          try simp only [Act.put, List.setIfInBounds_toArray, List.set_cons_zero, List.set_cons_succ]
          refine wpAnyH_take (i := 18) (by rfl) (by kernel_rfl) (by kernel_rfl) (by kernel_rfl) (by intro _ _ _ h; exact h) (Or.inr ⟨by kernel_rfl, rfl⟩) (by assumption) ?rest105
          change wpAnyH _ _ _ _ _ _ _ (Act.put _ (some 174) _) _
          try simp only [Act.put, List.setIfInBounds_toArray, List.set_cons_zero, List.set_cons_succ]
          refine wpAnyH_take (i := 19) (by rfl) (by kernel_rfl) (by kernel_rfl) (by kernel_rfl) (by intro _ _ _ h; exact h) (Or.inr ⟨by kernel_rfl, rfl⟩) (by assumption) ?rest106
          change wpAnyH _ _ _ _ _ _ _ (Act.put _ (some 175) _) _
          try simp only [Act.put, List.setIfInBounds_toArray, List.set_cons_zero, List.set_cons_succ]
          refine wpAnyH_take (i := 20) (by rfl) (by kernel_rfl) (by kernel_rfl) (by kernel_rfl) (by intro _ _ _ h; exact h) (Or.inr ⟨by kernel_rfl, rfl⟩) (by assumption) ?rest107
          change wpAnyH _ _ _ _ _ _ _ (Act.put _ (some 176) _) _
          try simp only [Act.put, List.setIfInBounds_toArray, List.set_cons_zero, List.set_cons_succ]
          refine wpAnyH_take (i := 21) (by rfl) (by kernel_rfl) (by kernel_rfl) (by kernel_rfl) (by intro _ _ _ h; exact h) (Or.inr ⟨by kernel_rfl, rfl⟩) (by assumption) ?rest108
          change wpAnyH _ _ _ _ _ _ _ (Act.put _ (some 177) _) _
          try simp only [Act.put, List.setIfInBounds_toArray, List.set_cons_zero, List.set_cons_succ]
          refine wpAnyH_take (i := 22) (by rfl) (by kernel_rfl) (by kernel_rfl) (by kernel_rfl) (by intro _ _ _ h; exact h) (Or.inr ⟨by kernel_rfl, rfl⟩) (by assumption) ?rest109
          change wpAnyH _ _ _ _ _ _ _ (Act.put _ (some 178) _) _
          try simp only [Act.put, List.setIfInBounds_toArray, List.set_cons_zero, List.set_cons_succ]
          refine tq 23 179 ?_
          refine tq 24 180 ?_
          refine wpAnyH_take (i := 25) (by rfl) (by kernel_rfl) (by kernel_rfl) (by kernel_rfl) (by intro _ _ _ h; exact h) (Or.inr ⟨by kernel_rfl, rfl⟩) (by assumption) ?rest112
          change wpAnyH _ _ _ _ _ _ _ (Act.put _ (some 181) _) _
          try simp only [Act.put, List.setIfInBounds_toArray, List.set_cons_zero, List.set_cons_succ]
          refine wpAnyH_take (i := 26) (by rfl) (by kernel_rfl) (by kernel_rfl) (by kernel_rfl) (by intro _ _ _ h; exact h) (Or.inr ⟨by kernel_rfl, rfl⟩) (by assumption) ?rest113
          change wpAnyH _ _ _ _ _ _ _ (Act.put _ (some 182) _) _
          try simp only [Act.put, List.setIfInBounds_toArray, List.set_cons_zero, List.set_cons_succ]
          refine wpAnyH_take (i := 27) (by rfl) (by kernel_rfl) (by kernel_rfl) (by kernel_rfl) (by intro _ _ _ h; exact h) (Or.inr ⟨by kernel_rfl, rfl⟩) (by assumption) ?rest114
          change wpAnyH _ _ _ _ _ _ _ (Act.put _ (some 183) _) _
          try simp only [Act.put, List.setIfInBounds_toArray, List.set_cons_zero, List.set_cons_succ]
          refine tq 28 184 ?_
          refine tq 29 185 ?_
          refine wpAnyH_take (i := 30) (by rfl) (by kernel_rfl) (by kernel_rfl) (by kernel_rfl) (by intro _ _ _ h; exact h) (Or.inr ⟨by kernel_rfl, rfl⟩) (by assumption) ?rest117
          change wpAnyH _ _ _ _ _ _ _ (Act.put _ (some 186) _) _
          try simp only [Act.put, List.setIfInBounds_toArray, List.set_cons_zero, List.set_cons_succ]
          refine wpAnyH_take (i := 31) (by rfl) (by kernel_rfl) (by kernel_rfl) (by kernel_rfl) (by intro _ _ _ h; exact h) (Or.inr ⟨by kernel_rfl, rfl⟩) (by assumption) ?rest118
          change wpAnyH _ _ _ _ _ _ _ (Act.put _ (some 187) _) _
          try simp only [Act.put, List.setIfInBounds_toArray, List.set_cons_zero, List.set_cons_succ]
          refine wpAnyH_take (i := 32) (by rfl) (by kernel_rfl) (by kernel_rfl) (by kernel_rfl) (by intro _ _ _ h; exact h) (Or.inr ⟨by kernel_rfl, rfl⟩) (by assumption) ?rest119
          change wpAnyH _ _ _ _ _ _ _ (Act.put _ (some 188) _) _
          try simp only [Act.put, List.setIfInBounds_toArray, List.set_cons_zero, List.set_cons_succ]
          refine tq 33 189 ?_
          refine wpAnyH_done (by kernel_rfl) ?_ _
          refine NoPanic.normal ?_
          go_wp2_with fail
          go_meet
          exact ⟨by rw [HNK.out], hHeld⟩
         | false =>
          have hσ : qf = some a := by
           cases qf with
           | none => have := HBAD.out.1.2 rfl; simp at this
           | some x => rw [HBAD.out.2 x rfl]
          by_cases hal2 : a = fp.length
          ·have e1 : ((a : Int) != (fp.length : Int)) = false := by simp [hal2]
           by_cases hvt : va < T.length
           ·have hvk := hvt
            rw [HLI.out] at hvk
            have e3 := decide_eq_false (Nat.not_le.2 hvk)
            have HNK := Lib.hid (show brk = !gb from by rw [← HBK.out, hσ, hal2, hk8]; simp [hvt])
            clear hσ hal2 hk8 hvt
            refine wp_region_noPanic ?_
            refine wp_region_held_drew (S := fun w' => Keeps t6 w') (by kernel_rfl) (((Keeps.refl t6).drew)) (fun _ => ?_)
            have hHeld : Keeps t6 (t6).drew := ((Keeps.refl t6).drew)
            generalize World.drew t6 = xs at *
            refine tq 0 156 ?_
            refine tq 1 157 ?_
            refine tq 2 158 ?_
            refine tq 3 159 ?_
            refine tq 4 160 ?_ (hy := fun w' hSw => by
             have hSw : Keeps t6 w' := hSw
             have hx := keep1 hSw k2
             clear hSw
             go_simp
             try with_reducible rfl)
            refine tq 5 161 ?_
            refine tq 6 162 ?_
            refine tq 7 163 ?_
            refine tq 8 164 ?_
            refine tq 9 165 ?_
            refine tq 10 166 ?_ (hy := fun w' hSw => by
             have hSw : Keeps t6 w' := hSw
             have hx := keep1 hSw g2
             clear hSw
             go_simp
             try with_reducible rfl)
            refine tq 11 167 ?_
            refine tq 12 168 ?_
            refine tq 13 169 ?_
            refine tq 14 170 ?_
            refine tq 15 171 ?_
            refine tq 16 172 ?_ (hy := fun w' hSw => by
             have hSw : Keeps t6 w' := hSw
             have hx := keep1 hSw g1
             clear hSw
             go_simp
             try with_reducible rfl)
            refine tq 17 173 ?_
            refine tq 18 174 ?_
            refine tq 19 175 ?_
            refine tq 20 176 ?_ (hy := fun w' hSw => by
             have hSw : Keeps t6 w' := hSw
             have hx := keep1 hSw g0
             clear hSw
             go_simp
             try with_reducible rfl)
            refine tq 21 177 ?_
            refine tq 22 178 ?_
            refine tq 23 179 ?_
            refine tq 24 180 ?_
            refine tq 25 181 ?_
            refine tq 26 182 ?_
            refine tq 27 183 ?_
            refine tq 28 184 ?_
            refine tq 29 185 ?_
            refine wpAnyH_take (i := 30) (by rfl) (by kernel_rfl) (by kernel_rfl) (by kernel_rfl) (by intro _ _ _ h; exact h) (yieldsIf_ld (by kernel_rfl) stM (fun w' hS => HSB.out.keeps hS) _ rfl rfl) (by assumption) ?rest151
            change wpAnyH _ _ _ _ _ _ _ (Act.put _ (some 186) _) _
            try simp only [Act.put, List.setIfInBounds_toArray, List.set_cons_zero, List.set_cons_succ]
            refine rd1 31 (fun K hK => ?_)
            go_simp
            refine (HGC.out _).mono ?_
            rintro e zg ⟨rfl, hk⟩
            have hb := hHeld.trans hk
            clear hk
            go_wp2_with fail
            refine bkm hK hb ?_
            clear hK K hHeld
            have hHeld : Keeps t6 zg := hb
            clear hb
            refine tq 32 188 ?_
            refine tq 33 189 ?_
            refine wpAnyH_done (by kernel_rfl) ?_ _
            refine NoPanic.normal ?_
            go_wp2_with fail
            go_meet
            exact ⟨by rw [HNK.out], hHeld⟩
           ·have hvk := hvt
            rw [HLI.out] at hvk
            have e3 := decide_eq_true (Nat.not_lt.1 hvk)
            have HNK := Lib.hid (show brk = true from by rw [← HBK.out, hσ, hal2, hk8]; simp [hvt])
            clear hσ hal2 hk8 hvt
            refine wp_region_noPanic ?_
            refine wp_region_held_drew (S := fun w' => Keeps t6 w') (by kernel_rfl) (((Keeps.refl t6).drew)) (fun _ => ?_)
            have hHeld : Keeps t6 (t6).drew := ((Keeps.refl t6).drew)
            generalize World.drew t6 = xs at *
            refine tq 0 156 ?_
            refine tq 1 157 ?_
            refine tq 2 158 ?_
            refine tq 3 159 ?_
            refine tq 4 160 ?_ (hy := fun w' hSw => by
             have hSw : Keeps t6 w' := hSw
             have hx := keep1 hSw k2
             clear hSw
             go_simp
             try with_reducible rfl)
            refine tq 5 161 ?_
            refine tq 6 162 ?_
            refine tq 7 163 ?_
            refine tq 8 164 ?_
            refine tq 9 165 ?_
            refine tq 10 166 ?_ (hy := fun w' hSw => by
             have hSw : Keeps t6 w' := hSw
             have hx := keep1 hSw g2
             clear hSw
             go_simp
             try with_reducible rfl)
            refine tq 11 167 ?_
            refine tq 12 168 ?_
            refine tq 13 169 ?_
            refine tq 14 170 ?_
            refine tq 15 171 ?_
            refine tq 16 172 ?_ (hy := fun w' hSw => by
             have hSw : Keeps t6 w' := hSw
             have hx := keep1 hSw g1
             clear hSw
             go_simp
             try with_reducible rfl)
            refine tq 17 173 ?_
            refine tq 18 174 ?_
            refine tq 19 175 ?_
            refine tq 20 176 ?_ (hy := fun w' hSw => by
             have hSw : Keeps t6 w' := hSw
             have hx := keep1 hSw g0
             clear hSw
             go_simp
             try with_reducible rfl)
            refine tq 21 177 ?_
            refine tq 22 178 ?_
            refine tq 23 179 ?_
            refine tq 24 180 ?_
            refine tq 25 181 ?_
            refine tq 26 182 ?_
            refine tq 27 183 ?_
            refine tq 28 184 ?_
            refine tq 29 185 ?_
            refine wpAnyH_take (i := 30) (by rfl) (by kernel_rfl) (by kernel_rfl) (by kernel_rfl) (by intro _ _ _ h; exact h) (Or.inr ⟨by kernel_rfl, rfl⟩) (by assumption) ?rest184
            change wpAnyH _ _ _ _ _ _ _ (Act.put _ (some 186) _) _
            try simp only [Act.put, List.setIfInBounds_toArray, List.set_cons_zero, List.set_cons_succ]
            refine wpAnyH_take (i := 31) (by rfl) (by kernel_rfl) (by kernel_rfl) (by kernel_rfl) (by intro _ _ _ h; exact h) (Or.inr ⟨by kernel_rfl, rfl⟩) (by assumption) ?rest185
            change wpAnyH _ _ _ _ _ _ _ (Act.put _ (some 187) _) _
            try simp only [Act.put, List.setIfInBounds_toArray, List.set_cons_zero, List.set_cons_succ]
            refine wpAnyH_take (i := 32) (by rfl) (by kernel_rfl) (by kernel_rfl) (by kernel_rfl) (by intro _ _ _ h; exact h) (Or.inr ⟨by kernel_rfl, rfl⟩) (by assumption) ?rest186
            change wpAnyH _ _ _ _ _ _ _ (Act.put _ (some 188) _) _
            try simp only [Act.put, List.setIfInBounds_toArray, List.set_cons_zero, List.set_cons_succ]
            refine tq 33 189 ?_
            refine wpAnyH_done (by kernel_rfl) ?_ _
            refine NoPanic.normal ?_
            go_wp2_with fail
            go_meet
            exact ⟨by rw [HNK.out], hHeld⟩
          ·have e1 : ((a : Int) != (fp.length : Int)) = true := by simp; omega
           have HNK := Lib.hid (show brk = true from by rw [← HBK.out, hσ]; simp [hal2])
           clear hσ hal2 hk8
           refine wp_region_noPanic ?_
           refine wp_region_held_drew (S := fun w' => Keeps t6 w') (by kernel_rfl) (((Keeps.refl t6).drew)) (fun _ => ?_)
           have hHeld : Keeps t6 (t6).drew := ((Keeps.refl t6).drew)
           generalize World.drew t6 = xs at *
           refine tq 0 156 ?_
           refine tq 1 157 ?_
           refine tq 2 158 ?_
           refine tq 3 159 ?_
           refine tq 4 160 ?_ (hy := fun w' hSw => by
            have hSw : Keeps t6 w' := hSw
            have hx := keep1 hSw k2
            clear hSw
            go_simp
            try with_reducible rfl)
           refine tq 5 161 ?_
           refine tq 6 162 ?_
           refine tq 7 163 ?_
           refine tq 8 164 ?_
           refine tq 9 165 ?_
           refine tq 10 166 ?_ (hy := fun w' hSw => by
            have hSw : Keeps t6 w' := hSw
            have hx := keep1 hSw g2
            clear hSw
            go_simp
            try with_reducible rfl)
           refine tq 11 167 ?_
           refine tq 12 168 ?_
           refine tq 13 169 ?_
           refine tq 14 170 ?_
           refine tq 15 171 ?_
           refine tq 16 172 ?_ (hy := fun w' hSw => by
            have hSw : Keeps t6 w' := hSw
            have hx := keep1 hSw g1
            clear hSw
            go_simp
            try with_reducible rfl)
           refine tq 17 173 ?_
           refine tq 18 174 ?_
           refine tq 19 175 ?_
           refine tq 20 176 ?_ (hy := fun w' hSw => by
            have hSw : Keeps t6 w' := hSw
            have hx := keep1 hSw g0
            clear hSw
            go_simp
            try with_reducible rfl)
           refine tq 21 177 ?_
           refine tq 22 178 ?_
           refine tq 23 179 ?_
           refine tq 24 180 ?_
           refine wpAnyH_take (i := 25) (by rfl) (by kernel_rfl) (by kernel_rfl) (by kernel_rfl) (by intro _ _ _ h; exact h) (Or.inr ⟨by kernel_rfl, rfl⟩) (by assumption) ?rest213
           change wpAnyH _ _ _ _ _ _ _ (Act.put _ (some 181) _) _
           try simp only [Act.put, List.setIfInBounds_toArray, List.set_cons_zero, List.set_cons_succ]
           refine wpAnyH_take (i := 26) (by rfl) (by kernel_rfl) (by kernel_rfl) (by kernel_rfl) (by intro _ _ _ h; exact h) (Or.inr ⟨by kernel_rfl, rfl⟩) (by assumption) ?rest214
           change wpAnyH _ _ _ _ _ _ _ (Act.put _ (some 182) _) _
           try simp only [Act.put, List.setIfInBounds_toArray, List.set_cons_zero, List.set_cons_succ]
           refine wpAnyH_take (i := 27) (by rfl) (by kernel_rfl) (by kernel_rfl) (by kernel_rfl) (by intro _ _ _ h; exact h) (Or.inr ⟨by kernel_rfl, rfl⟩) (by assumption) ?rest215
           change wpAnyH _ _ _ _ _ _ _ (Act.put _ (some 183) _) _
           try simp only [Act.put, List.setIfInBounds_toArray, List.set_cons_zero, List.set_cons_succ]
           refine tq 28 184 ?_
           refine tq 29 185 ?_
           refine wpAnyH_take (i := 30) (by rfl) (by kernel_rfl) (by kernel_rfl) (by kernel_rfl) (by intro _ _ _ h; exact h) (Or.inr ⟨by kernel_rfl, rfl⟩) (by assumption) ?rest218
           change wpAnyH _ _ _ _ _ _ _ (Act.put _ (some 186) _) _
           try simp only [Act.put, List.setIfInBounds_toArray, List.set_cons_zero, List.set_cons_succ]
           refine wpAnyH_take (i := 31) (by rfl) (by kernel_rfl) (by kernel_rfl) (by kernel_rfl) (by intro _ _ _ h; exact h) (Or.inr ⟨by kernel_rfl, rfl⟩) (by assumption) ?rest219
           change wpAnyH _ _ _ _ _ _ _ (Act.put _ (some 187) _) _
           try simp only [Act.put, List.setIfInBounds_toArray, List.set_cons_zero, List.set_cons_succ]
           refine wpAnyH_take (i := 32) (by rfl) (by kernel_rfl) (by kernel_rfl) (by kernel_rfl) (by intro _ _ _ h; exact h) (Or.inr ⟨by kernel_rfl, rfl⟩) (by assumption) ?rest220
           change wpAnyH _ _ _ _ _ _ _ (Act.put _ (some 188) _) _
           try simp only [Act.put, List.setIfInBounds_toArray, List.set_cons_zero, List.set_cons_succ]
           refine tq 33 189 ?_
           refine wpAnyH_done (by kernel_rfl) ?_ _
           refine NoPanic.normal ?_
           go_wp2_with fail
           go_meet
           exact ⟨by rw [HNK.out], hHeld⟩
        ·have ek : (fk != 18) = true := by simp [hk8]
         have HNK := Lib.hid (show brk = true from by rw [← HBK.out]; simp [hk8])
         clear hk8
         refine wp_region_noPanic ?_
         refine wp_region_held_drew (S := fun w' => Keeps t6 w') (by kernel_rfl) (((Keeps.refl t6).drew)) (fun _ => ?_)
         have hHeld : Keeps t6 (t6).drew := ((Keeps.refl t6).drew)
         generalize World.drew t6 = xs at *
         refine tq 0 156 ?_
         refine tq 1 157 ?_
         refine tq 2 158 ?_
         refine tq 3 159 ?_
         refine tq 4 160 ?_ (hy := fun w' hSw => by
          have hSw : Keeps t6 w' := hSw
          have hx := keep1 hSw k2
          clear hSw
          go_simp
          try with_reducible rfl)
         refine tq 5 161 ?_
         refine tq 6 162 ?_
         refine wpAnyH_take (i := 7) (by rfl) (by kernel_rfl) (by kernel_rfl) (by kernel_rfl) (by intro _ _ _ h; exact h) (Or.inr ⟨by kernel_rfl, rfl⟩) (by assumption) ?rest229
         change wpAnyH _ _ _ _ _ _ _ (Act.put _ (some 163) _) _
         try simp only [Act.put, List.setIfInBounds_toArray, List.set_cons_zero, List.set_cons_succ]
         refine wpAnyH_take (i := 8) (by rfl) (by kernel_rfl) (by kernel_rfl) (by kernel_rfl) (by intro _ _ _ h; exact h) (Or.inr ⟨by kernel_rfl, rfl⟩) (by assumption) ?rest230
         change wpAnyH _ _ _ _ _ _ _ (Act.put _ (some 164) _) _
         try simp only [Act.put, List.setIfInBounds_toArray, List.set_cons_zero, List.set_cons_succ]
         refine wpAnyH_take (i := 9) (by rfl) (by kernel_rfl) (by kernel_rfl) (by kernel_rfl) (by intro _ _ _ h; exact h) (Or.inr ⟨by kernel_rfl, rfl⟩) (by assumption) ?rest231
         change wpAnyH _ _ _ _ _ _ _ (Act.put _ (some 165) _) _
         try simp only [Act.put, List.setIfInBounds_toArray, List.set_cons_zero, List.set_cons_succ]
         refine wpAnyH_take (i := 10) (by rfl) (by kernel_rfl) (by kernel_rfl) (by kernel_rfl) (by intro _ _ _ h; exact h) (Or.inr ⟨by kernel_rfl, rfl⟩) (by assumption) ?rest232
         change wpAnyH _ _ _ _ _ _ _ (Act.put _ (some 166) _) _
         try simp only [Act.put, List.setIfInBounds_toArray, List.set_cons_zero, List.set_cons_succ]
         refine tq 11 167 ?_
         refine tq 12 168 ?_
         refine wpAnyH_take (i := 13) (by rfl) (by kernel_rfl) (by kernel_rfl) (by kernel_rfl) (by intro _ _ _ h; exact h) (Or.inr ⟨by kernel_rfl, rfl⟩) (by assumption) ?rest235
         change wpAnyH _ _ _ _ _ _ _ (Act.put _ (some 169) _) _
         try simp only [Act.put, List.setIfInBounds_toArray, List.set_cons_zero, List.set_cons_succ]
         refine wpAnyH_take (i := 14) (by rfl) (by kernel_rfl) (by kernel_rfl) (by kernel_rfl) (by intro _ _ _ h; exact h) (Or.inr ⟨by kernel_rfl, rfl⟩) (by assumption) ?rest236
         change wpAnyH _ _ _ _ _ _ _ (Act.put _ (some 170) _) _
         try simp only [Act.put, List.setIfInBounds_toArray, List.set_cons_zero, List.set_cons_succ]
         refine wpAnyH_take (i := 15) (by rfl) (by kernel_rfl) (by kernel_rfl) (by kernel_rfl) (by intro _ _ _ h; exact h) (Or.inr ⟨by kernel_rfl, rfl⟩) (by assumption) ?rest237
         change wpAnyH _ _ _ _ _ _ _ (Act.put _ (some 171) _) _
         try simp only [Act.put, List.setIfInBounds_toArray, List.set_cons_zero, List.set_cons_succ]
         refine wpAnyH_take (i := 16) (by rfl) (by kernel_rfl) (by kernel_rfl) (by kernel_rfl) (by intro _ _ _ h; exact h) (Or.inr ⟨by kernel_rfl, rfl⟩) (by assumption) ?rest238
         change wpAnyH _ _ _ _ _ _ _ (Act.put _ (some 172) _) _
         try simp only [Act.put, List.setIfInBounds_toArray, List.set_cons_zero, List.set_cons_succ]
         refine wpAnyH_take (i := 17) (by rfl) (by kernel_rfl) (by kernel_rfl) (by kernel_rfl) (by intro _ _ _ h; exact h) (Or.inr ⟨by kernel_rfl, rfl⟩) (by assumption) ?rest239
         change wpAnyH _ _ _ _ _ _ _ (Act.put _ (some 173) _) _
         try simp only [Act.put, List.setIfInBounds_toArray, List.set_cons_zero, List.set_cons_succ]
         refine wpAnyH_take (i := 18) (by rfl) (by kernel_rfl) (by kernel_rfl) (by kernel_rfl) (by intro _ _ _ h; exact h) (Or.inr ⟨by kernel_rfl, rfl⟩) (by assumption) ?rest240
         change wpAnyH _ _ _ _ _ _ _ (Act.put _ (some 174) _) _
         try simp only [Act.put, List.setIfInBounds_toArray, List.set_cons_zero, List.set_cons_succ]
         refine wpAnyH_take (i := 19) (by rfl) (by kernel_rfl) (by kernel_rfl) (by kernel_rfl) (by intro _ _ _ h; exact h) (Or.inr ⟨by kernel_rfl, rfl⟩) (by assumption) ?rest241
         change wpAnyH _ _ _ _ _ _ _ (Act.put _ (some 175) _) _
         try simp only [Act.put, List.setIfInBounds_toArray, List.set_cons_zero, List.set_cons_succ]
         refine wpAnyH_take (i := 20) (by rfl) (by kernel_rfl) (by kernel_rfl) (by kernel_rfl) (by intro _ _ _ h; exact h) (Or.inr ⟨by kernel_rfl, rfl⟩) (by assumption) ?rest242
         change wpAnyH _ _ _ _ _ _ _ (Act.put _ (some 176) _) _
         try simp only [Act.put, List.setIfInBounds_toArray, List.set_cons_zero, List.set_cons_succ]
         refine wpAnyH_take (i := 21) (by rfl) (by kernel_rfl) (by kernel_rfl) (by kernel_rfl) (by intro _ _ _ h; exact h) (Or.inr ⟨by kernel_rfl, rfl⟩) (by assumption) ?rest243
         change wpAnyH _ _ _ _ _ _ _ (Act.put _ (some 177) _) _
         try simp only [Act.put, List.setIfInBounds_toArray, List.set_cons_zero, List.set_cons_succ]
         refine wpAnyH_take (i := 22) (by rfl) (by kernel_rfl) (by kernel_rfl) (by kernel_rfl) (by intro _ _ _ h; exact h) (Or.inr ⟨by kernel_rfl, rfl⟩) (by assumption) ?rest244
         change wpAnyH _ _ _ _ _ _ _ (Act.put _ (some 178) _) _
         try simp only [Act.put, List.setIfInBounds_toArray, List.set_cons_zero, List.set_cons_succ]
         refine tq 23 179 ?_
         refine tq 24 180 ?_
         refine wpAnyH_take (i := 25) (by rfl) (by kernel_rfl) (by kernel_rfl) (by kernel_rfl) (by intro _ _ _ h; exact h) (Or.inr ⟨by kernel_rfl, rfl⟩) (by assumption) ?rest247
         change wpAnyH _ _ _ _ _ _ _ (Act.put _ (some 181) _) _
         try simp only [Act.put, List.setIfInBounds_toArray, List.set_cons_zero, List.set_cons_succ]
         refine wpAnyH_take (i := 26) (by rfl) (by kernel_rfl) (by kernel_rfl) (by kernel_rfl) (by intro _ _ _ h; exact h) (Or.inr ⟨by kernel_rfl, rfl⟩) (by assumption) ?rest248
         change wpAnyH _ _ _ _ _ _ _ (Act.put _ (some 182) _) _
         try simp only [Act.put, List.setIfInBounds_toArray, List.set_cons_zero, List.set_cons_succ]
         refine wpAnyH_take (i := 27) (by rfl) (by kernel_rfl) (by kernel_rfl) (by kernel_rfl) (by intro _ _ _ h; exact h) (Or.inr ⟨by kernel_rfl, rfl⟩) (by assumption) ?rest249
         change wpAnyH _ _ _ _ _ _ _ (Act.put _ (some 183) _) _
         try simp only [Act.put, List.setIfInBounds_toArray, List.set_cons_zero, List.set_cons_succ]
         refine tq 28 184 ?_
         refine tq 29 185 ?_
         refine wpAnyH_take (i := 30) (by rfl) (by kernel_rfl) (by kernel_rfl) (by kernel_rfl) (by intro _ _ _ h; exact h) (Or.inr ⟨by kernel_rfl, rfl⟩) (by assumption) ?rest252
         change wpAnyH _ _ _ _ _ _ _ (Act.put _ (some 186) _) _
         try simp only [Act.put, List.setIfInBounds_toArray, List.set_cons_zero, List.set_cons_succ]
         refine wpAnyH_take (i := 31) (by rfl) (by kernel_rfl) (by kernel_rfl) (by kernel_rfl) (by intro _ _ _ h; exact h) (Or.inr ⟨by kernel_rfl, rfl⟩) (by assumption) ?rest253
         change wpAnyH _ _ _ _ _ _ _ (Act.put _ (some 187) _) _
         try simp only [Act.put, List.setIfInBounds_toArray, List.set_cons_zero, List.set_cons_succ]
         refine wpAnyH_take (i := 32) (by rfl) (by kernel_rfl) (by kernel_rfl) (by kernel_rfl) (by intro _ _ _ h; exact h) (Or.inr ⟨by kernel_rfl, rfl⟩) (by assumption) ?rest254
         change wpAnyH _ _ _ _ _ _ _ (Act.put _ (some 188) _) _
         try simp only [Act.put, List.setIfInBounds_toArray, List.set_cons_zero, List.set_cons_succ]
         refine tq 33 189 ?_
         refine wpAnyH_done (by kernel_rfl) ?_ _
         refine NoPanic.normal ?_
         go_wp2_with fail
         go_meet
         exact ⟨by rw [HNK.out], hHeld⟩
       case rest =>
       obtain ⟨rfl, hkc⟩ := hcut
       have HV7 := Lib.hid (HV6.out.kept hkc)
       have HSB7 := Lib.hid (HSB.out.keeps hkc)
       have HBQ := Lib.hid (show (fk = 18 ∧ stOk (stR m63 fp) fp T.length = true) ↔ brk = false from by
        rw [HSR.out, ← HBK.out]
        unfold stOk
        simp only
        rw [HGB.out]
        generalize (decide (qf = some fp.length) && decide (va < T.length) && gb) = bb
        by_cases h : fk = 18 <;> cases bb <;> simp [h])
       have HSC := Lib.hid (show stepsR2 T.length (⟨fa, fn, fk, fp⟩ :: (F.map (·.1)).drop (m + 1)) S = if fk = 18 ∧ stOk (stR m63 fp) fp T.length = true then ((stepsR2 T.length ((F.map (·.1)).drop (m + 1)) (S.set (stR m63 fp).1.1 (stR m63 fp).1.2)).1, fn + (stepsR2 T.length ((F.map (·.1)).drop (m + 1)) (S.set (stR m63 fp).1.1 (stR m63 fp).1.2)).2) else (S, 0) from rfl)
       have HVL := Lib.hid (show stOk (stR m63 fp) fp T.length = true → va < T.length from fun h => by
        rw [HSR.out] at h
        unfold stOk at h
        simp only [Bool.and_eq_true, decide_eq_true_eq] at h
        exact h.1.2)
       rw [HSR.out] at HSC HBQ HVL
       simp only at HSC
       clear HV6 HQ6 HSB HGB hkc HSR HBK HEC HEX HPF HYA
       cases brk with
       | true =>
        have HRF := Lib.hid (show R = (⟨ci, ca, xf, xd, T, S, y1⟩, u, 0) from by
         rw [HR3.out, HST.out, HSC.out, if_neg (fun h => by have := HBQ.out.1 h; cases this)]
         simp only [Prod.mk.injEq, true_and, and_true]
         omega)
        go_wp2_with (first | refine wpList_ld rfl jobM HV7.out.rd.job _ rfl rfl ?_ | (refine wpList_st (ds := #[.int .i64 ci, .int .i64 ca, .string (bstr xf), .string (bstr xd), .slice po T.length co, .slice qs T.length ks, .slice pz1 y1.length cz1, .int .i64 u, .int .i64 0]) rfl gotM HV7.out.res rfl (by simp [Value.oneCell']) _ _ rfl rfl rfl rfl ?_; intro yF hBF hMF; have FF := Lib.hid (show yF.cell? ⟨Rb, 0, none⟩ = some (.int .i64 ci) ∧ yF.cell? ⟨Rb, 1, none⟩ = some (.int .i64 ca) ∧ yF.cell? ⟨Rb, 2, none⟩ = some (.string (bstr xf)) ∧ yF.cell? ⟨Rb, 3, none⟩ = some (.string (bstr xd)) ∧ yF.cell? ⟨Rb, 4, none⟩ = some (.slice po T.length co) ∧ yF.cell? ⟨Rb, 5, none⟩ = some (.slice qs T.length ks) ∧ yF.cell? ⟨Rb, 6, none⟩ = some (.slice pz1 y1.length cz1) ∧ yF.cell? ⟨Rb, 7, none⟩ = some (.int .i64 u) ∧ yF.cell? ⟨Rb, 8, none⟩ = some (.int .i64 0) from ⟨by rw [hBF.cell]; rfl, by rw [hBF.cell]; rfl, by rw [hBF.cell]; rfl, by rw [hBF.cell]; rfl, by rw [hBF.cell]; rfl, by rw [hBF.cell]; rfl, by rw [hBF.cell]; rfl, by rw [hBF.cell]; rfl, by rw [hBF.cell]; rfl⟩); have HKF := Lib.hid (hMF.keeps HV7.out.rd.keeps (fun x hx => by rw [hx]; exact HV7.out.rw_)); have HTF := Lib.hid (ownsRow_mods HV7.out.rd.tos hMF (fun x hx e => ownsRow_ne HV7.out.rd.tos HV7.out.res (by decide) (by rw [hx, e]))); have HSF := Lib.hid (ownsRow_mods HV7.out.rd.sts hMF (fun x hx e => ownsRow_ne HV7.out.rd.sts HV7.out.res (by decide) (by rw [hx, e]))); have HBF := Lib.hid (HV7.out.rd.bd.modsT hMF (fun x hx => by subst hx; exact blk_ty HV7.out.res (by decide))); clear hBF hMF))
        exact bodyPost_ret (v := .agg #[.int .i64 ci, .int .i64 ca, .string (bstr xf), .string (bstr xd), .slice po T.length co, .slice qs T.length ks, .slice pz1 y1.length cz1, .int .i64 u, .int .i64 0]) (by simp [results, Try.results8, go_sem, FF.out.1, FF.out.2.1, FF.out.2.2.1, FF.out.2.2.2.1, FF.out.2.2.2.2.1, FF.out.2.2.2.2.2.1, FF.out.2.2.2.2.2.2.1, FF.out.2.2.2.2.2.2.2.1, FF.out.2.2.2.2.2.2.2.2]) rfl ⟨_, _, _, by rw [HRF.out], by rw [HRF.out]; exact ⟨rowS_own HTF.out, rowS_own HSF.out, HBF.out.row⟩, HKF.out⟩
       | false =>
        obtain ⟨h18, hok⟩ := HBQ.out.2 rfl
        have hvk := HVL.out hok
        have HSC2 := Lib.hid (HSC.out.trans (if_pos ⟨h18, hok⟩))
        clear h18 hok HBQ HVL HSC
        have HKS := Lib.hid (show T.length ≤ ks from by
         obtain ⟨_, _, e, h1, -⟩ := ownsRow_form HV7.out.rd.sts
         simp only [Value.slice.injEq] at e
         obtain ⟨-, e1, rfl⟩ := e
         rw [← HSS.out]; exact h1)
        have HOS := Lib.hid (show wc.ownsRow w.heap.size 44 4 (.slice qs T.length ks) S.length (S.flatMap stC) from HV7.out.rd.sts)
        obtain ⟨pA, pB, hA, hB, hAB⟩ := sts_parts qs T.length ks va S HSS.out hvk HKS.out
        have HAB := Lib.hid hAB
        have HRS : Hid (∀ wz, wz.ownsRow w.heap.size 44 4 (.slice qs T.length ks) S.length (S.flatMap stC) → RowS wz 4 (.slice qs T.length ks) T.length (S.flatMap stC)) := Lib.hid (fun wz h => by have := rowS_own h; rwa [HSS.out] at this)
        clear hAB
        have hwv : IntKind.i64.wrap ((va : Int) + 1) = (va : Int) + 1 := IntWalk.i64_in _ (by omega)
        have j5 : wc.cell? ⟨J, 5, none⟩ = some (.slice qs T.length ks) := by rw [HV7.out.rd.job.cell]; rfl
        have hwz : w.heap.size ≤ wc.heap.size := HV7.out.rd.keeps.size
        go_upto_region 30 with (at_builtin; refine wpList_apps (base := w.heap.size) stok (by decide) rfl _ _ rfl (.slice none 0 0) (.slice pA va ks) 0 va [] ((S.take va).flatMap stC) rfl rfl (World.ownsRow_nil _ _ _ _) (HAB.out _ (HRS.out _ HOS.out)).1 (oneCell_sts _) (by omega) (by decide) hwz ?_; intro v1 x1 ho1 hg1 hf1; rw [Nat.zero_add, List.nil_append] at ho1; obtain ⟨p1, c1', rfl, -, -⟩ := ownsRow_form ho1; have HO1 := Lib.hid ho1; have HF1 := Lib.hid hf1; have HV8 := Lib.hid (HV7.out.grownO (v := .slice none 0 0) (n := 0) (xs := []) hg1 (World.ownsRow_nil _ _ _ _) (fun x hx => by simp [Value.ownBlock] at hx)); have HSB8 := Lib.hid (HSB7.out.grown hg1 (by simp [Value.ownBlock])); have HN1 := Lib.hid (show ∀ x, (Value.slice p1 va c1').ownBlock = some x → (Value.slice qs T.length ks).ownBlock ≠ some x from fun x hx hv => by { rcases hf1 x hx with h | h; { simp [Value.ownBlock] at h }; { have := sts_lt HOS.out x hv; omega } }); have HZ1 := Lib.hid (show w.heap.size ≤ x1.heap.size from HV8.out.rd.keeps.size); clear ho1 hg1 hf1)
        clear j5 HV7 HSB7 HF1 HOS
        have HOS8 := Lib.hid (show x1.ownsRow w.heap.size 44 4 (.slice qs T.length ks) S.length (S.flatMap stC) from HV8.out.rd.sts)
        go_upto_region 31 with (first | refine wpList_ld rfl stM HSB8.out _ rfl rfl ?_ | (at_builtin; refine wpList_apps (base := w.heap.size) stok (by decide) rfl _ _ rfl (.slice p1 va c1') (.slice (some ⟨x1.heap.size, 0, none⟩) 1 1) va 1 ((S.take va).flatMap stC) (stC ⟨(vb : Int), (vd : Int), ce, (vf : Int)⟩) rfl rfl (ownsRow_keeps HO1.out ((Keeps.refl _).alloc _)) (rowS_lit rfl rfl rfl) (by simp [stC, Value.oneCell']) (by omega) (by decide) (by have := HZ1.out; exact Nat.le_trans this ((Keeps.refl x1).alloc _).size) ?_; intro v2 x2 ho2 hg2 hf2; obtain ⟨p2, c2', rfl, -, -⟩ := ownsRow_form ho2; have HO2 := Lib.hid ho2; have HV9 := Lib.hid ((HV8.out.kept ((Keeps.refl _).alloc _)).grownO hg2 (ownsRow_keeps HO1.out ((Keeps.refl _).alloc _)) HN1.out); have HN2 := Lib.hid (show ∀ x, (Value.slice p2 (va + 1) c2').ownBlock = some x → (Value.slice qs T.length ks).ownBlock ≠ some x from fun x hx hv => by { rcases hf2 x hx with h | h; { exact HN1.out x h hv }; { have h1 := sts_lt HOS8.out x hv; have h2 := ((Keeps.refl x1).alloc (.cells #[.int .i64 (vb : Int), .int .i64 (vd : Int), .int .i64 ce, .int .i64 (vf : Int)] 44)).size; omega } }); have HZ2 := Lib.hid (show w.heap.size ≤ x2.heap.size from HV9.out.rd.keeps.size); clear ho2 hg2 hf2))
        clear HV8 HSB8 HO1 HN1 HZ1 HOS8
        have HOS9 := Lib.hid (show x2.ownsRow w.heap.size 44 4 (.slice qs T.length ks) S.length (S.flatMap stC) from HV9.out.rd.sts)
        have j5 : x2.cell? ⟨J, 5, none⟩ = some (.slice qs T.length ks) := by rw [HV9.out.rd.job.cell]; rfl
        have HLV := Lib.hid (show va + 1 + (T.length - (va + 1)) = T.length from by omega)
        have HSP := Lib.hid (set_parts S va ⟨(vb : Int), (vd : Int), ce, (vf : Int)⟩ (by rw [HSS.out]; exact hvk))
        have HSL2 := Lib.hid (show (S.set va ⟨(vb : Int), (vd : Int), ce, (vf : Int)⟩).length = T.length from by rw [List.length_set]; exact HSS.out)
        go_upto_region 32 with (at_builtin; refine wpList_apps (base := w.heap.size) stok (by decide) rfl _ _ rfl (.slice p2 (va + 1) c2') (.slice pB (T.length - (va + 1)) (ks - (va + 1))) (va + 1) (T.length - (va + 1)) ((S.take va).flatMap stC ++ stC ⟨(vb : Int), (vd : Int), ce, (vf : Int)⟩) ((S.drop (va + 1)).flatMap stC) rfl rfl HO2.out (HAB.out _ (HRS.out _ HOS9.out)).2 (oneCell_sts _) (by omega) (by decide) HZ2.out ?_; intro v3 x3 ho3 hg3 hf3; rw [HSP.out, HLV.out] at ho3; obtain ⟨p3, c3', rfl, -, -⟩ := ownsRow_form ho3; have HVA := Lib.hid (HV9.out.grownO hg3 HO2.out HN2.out); have HVB := Lib.hid (HVA.out.newS (vs' := .slice p3 T.length c3') (S' := S.set va ⟨(vb : Int), (vd : Int), ce, (vf : Int)⟩) (by rw [HSL2.out]; exact ho3)); have j7 : x3.cell? ⟨J, 5, none⟩ = some (.slice qs T.length ks) := by { rw [HVA.out.rd.job.cell]; rfl }; have f7 : x3.frozen? ⟨J, 5, none⟩ = false := HVA.out.rd.job.frozen _; clear ho3 hg3 hf3)
        generalize x3.setCell ⟨J, 5, none⟩ (.slice p3 T.length c3') = x4 at *
        have k1 : x4.cell? ⟨b, off + m * 4 + 1, none⟩ = some (.int .i64 fn) := HCF.out _ HVB.out.rd.fr 1 _ rfl
        have HST2 := Lib.hid (show stepsR2 T.length ((F.map (·.1)).drop 2) S0 = ((stepsR2 T.length ((F.map (·.1)).drop (m + 1)) (S.set va ⟨(vb : Int), (vd : Int), ce, (vf : Int)⟩)).1, (u + fn - (n0 + n1)) + (stepsR2 T.length ((F.map (·.1)).drop (m + 1)) (S.set va ⟨(vb : Int), (vd : Int), ce, (vf : Int)⟩)).2) from by
         rw [HST.out, HSC2.out]
         simp only [Prod.mk.injEq, true_and]
         omega)
        clear j5 j7 f7 HV9 HVA HO2 HN2 HZ2 HOS9 HSP HST HSC2 HSS hA hB HAB HRS HKS
        go_wp2_with fail
        go_roundw
        case rel => exact ⟨m + 1, u + fn, S.set va ⟨(vb : Int), (vd : Int), ce, (vf : Int)⟩, p3, c3', by simp, by simp, by omega, by omega, HVB, HSL2, HST2, HU2⟩
        case measure =>
         simp only [intOf]
         omega
      ·have hme : m = F.length := by omega
       have HRF := Lib.hid (show R = (⟨ci, ca, xf, xd, T, S, y1⟩, u, 0) from by
        rw [HR3.out, HST.out, List.drop_eq_nil_of_le (by rw [List.length_map]; omega)]
        simp only [stepsR2, Prod.mk.injEq, true_and, and_true]
        omega)
       clear hme
       go_wp2_with (first | refine wpList_ld rfl jobM HT.out.rd.job _ rfl rfl ?_ | (refine wpList_st (ds := #[.int .i64 ci, .int .i64 ca, .string (bstr xf), .string (bstr xd), .slice po T.length co, .slice qs T.length ks, .slice pz1 y1.length cz1, .int .i64 u, .int .i64 0]) rfl gotM HT.out.res rfl (by simp [Value.oneCell']) _ _ rfl rfl rfl rfl ?_; intro yF hBF hMF; have FF := Lib.hid (show yF.cell? ⟨Rb, 0, none⟩ = some (.int .i64 ci) ∧ yF.cell? ⟨Rb, 1, none⟩ = some (.int .i64 ca) ∧ yF.cell? ⟨Rb, 2, none⟩ = some (.string (bstr xf)) ∧ yF.cell? ⟨Rb, 3, none⟩ = some (.string (bstr xd)) ∧ yF.cell? ⟨Rb, 4, none⟩ = some (.slice po T.length co) ∧ yF.cell? ⟨Rb, 5, none⟩ = some (.slice qs T.length ks) ∧ yF.cell? ⟨Rb, 6, none⟩ = some (.slice pz1 y1.length cz1) ∧ yF.cell? ⟨Rb, 7, none⟩ = some (.int .i64 u) ∧ yF.cell? ⟨Rb, 8, none⟩ = some (.int .i64 0) from ⟨by rw [hBF.cell]; rfl, by rw [hBF.cell]; rfl, by rw [hBF.cell]; rfl, by rw [hBF.cell]; rfl, by rw [hBF.cell]; rfl, by rw [hBF.cell]; rfl, by rw [hBF.cell]; rfl, by rw [hBF.cell]; rfl, by rw [hBF.cell]; rfl⟩); have HKF := Lib.hid (hMF.keeps HT.out.rd.keeps (fun x hx => by rw [hx]; exact HT.out.rw_)); have HTF := Lib.hid (ownsRow_mods HT.out.rd.tos hMF (fun x hx e => ownsRow_ne HT.out.rd.tos HT.out.res (by decide) (by rw [hx, e]))); have HSF := Lib.hid (ownsRow_mods HT.out.rd.sts hMF (fun x hx e => ownsRow_ne HT.out.rd.sts HT.out.res (by decide) (by rw [hx, e]))); have HBF := Lib.hid (HT.out.rd.bd.modsT hMF (fun x hx => by subst hx; exact blk_ty HT.out.res (by decide))); clear hBF hMF))
       exact bodyPost_ret (v := .agg #[.int .i64 ci, .int .i64 ca, .string (bstr xf), .string (bstr xd), .slice po T.length co, .slice qs T.length ks, .slice pz1 y1.length cz1, .int .i64 u, .int .i64 0]) (by simp [results, Try.results8, go_sem, FF.out.1, FF.out.2.1, FF.out.2.2.1, FF.out.2.2.2.1, FF.out.2.2.2.2.1, FF.out.2.2.2.2.2.1, FF.out.2.2.2.2.2.2.1, FF.out.2.2.2.2.2.2.2.1, FF.out.2.2.2.2.2.2.2.2]) rfl ⟨_, _, _, by rw [HRF.out], by rw [HRF.out]; exact ⟨rowS_own HTF.out, rowS_own HSF.out, HBF.out.row⟩, HKF.out⟩
end Env
end Go.Proofs.Ytkbibhlfehamgaa
