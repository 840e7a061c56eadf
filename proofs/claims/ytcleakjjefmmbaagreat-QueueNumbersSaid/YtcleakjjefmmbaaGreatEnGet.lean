/- envel.Read. -/
import Derived.Test.YtcleakjjefmmbaaGreatK41
namespace Go.Proofs.YtcleakjjefmmbaaGreat
open Go.RowKit
namespace Env
open Adr (Str)
open Frm (ownsRow_keeps ownsRow_mods ownsRow_ne ownsRow_form ownsRow_ty rowS_lit Fr1 frC rowR row_any RowDid)
open Txl (FrmsR frM rowR_all lenS lenS_nn lenS_cons)
theorem readF_short {fs : List Fr1} (h : fs.length < 2) : readF fs = (noJob, 0, 12) := by
 match fs, h with
 | [], _ => rfl
 | [_], _ => rfl
 | _ :: _ :: _, h => simp at h; omega
theorem readF_two {fs : List Fr1} (h : 2 ≤ fs.length) : readF fs = if fs[0].kind = 16 ∧ fs[1].kind = 17 ∧ fs[1].pay.length ≤ 32768 ∧ envOk (envR 100 capId capT fs[0].pay) fs[0].pay = true then
   let j := (envR 100 capId capT fs[0].pay).1
   let s := stepsR j.tos.length (fs.drop 2) (List.replicate j.tos.length (freshS j.arr))
   ({ j with st := s.1, body := fs[1].pay }, fs[0].len + fs[1].len + s.2, 0)
  else (noJob, 0, 12) := by
 match fs, h with
 | [], h => simp at h
 | [_], h => simp at h
 | _ :: _ :: _, _ => rfl
def good1 : List Fr1 → Bool
 |f :: g :: _ => decide (f.kind = 16) && decide (g.kind = 17) && decide (g.pay.length ≤ 32768)
 | _ => false
theorem good1_short {fs : List Fr1} (h : fs.length < 2) : good1 fs = false := by
 match fs, h with
 | [], _ => rfl
 | [_], _ => rfl
 | _ :: _ :: _, h => simp at h; omega
theorem good1_two {fs : List Fr1} (h : 2 ≤ fs.length) : good1 fs = (decide (fs[0].kind = 16) && decide (fs[1].kind = 17) && decide (fs[1].pay.length ≤ 32768)) := by
 match fs, h with
 | [], h => simp at h
 | [_], h => simp at h
 | _ :: _ :: _, _ => rfl
theorem readF_bad {fs : List Fr1} (h : good1 fs = false) : readF fs = (noJob, 0, 12) := by
 by_cases h2 : fs.length < 2
 ·exact readF_short h2
 ·have h3 : 2 ≤ fs.length := by omega
  rw [good1_two h3] at h
  rw [readF_two h3, if_neg]
  rintro ⟨a, b, c, -⟩
  simp [a, b, c] at h
theorem good1_len {fs : List Fr1} (h : good1 fs = true) : 2 ≤ fs.length := by
 by_cases h2 : fs.length < 2
 ·rw [good1_short h2] at h; simp at h
 ·omega
theorem ownsRow_lower3 {w : World} {base base' C n : Nat} {e : TypeId} {v : Value} {xs : List Value} (h : w.ownsRow base e C v n xs) (hb : base' ≤ base) : w.ownsRow base' e C v n xs := by
 refine ⟨h.1, ?_⟩
 rcases h.2 with h0 | ⟨g, cap, cur, rfl, hb', rest⟩
 ·exact .inl h0
 ·exact .inr ⟨g, cap, cur, rfl, Nat.le_trans hb hb', rest⟩
/-- append in a region that draws -/
theorem step_appG {P : Program} {w : World} {ops : Array Oper} {o : Oper} {a : Act} {K : Act → World → Prop} {Q : Exit → Act → World → Prop} {E : Prop} {t e : TypeId} {size bytes base : Nat} (he : ElemOkS P t e size bytes) (hsz : 0 < size) (hgd : o.guard = none) (s x : Operand)
  (ho : o.op = .call { callee := .builtin .append, args := #[s, x], argTypes := #[t, t] })
  (v : Value) (n m c : Nat) (ad : Addr) (xs news : List Value) (hs : a.eval s = v) (hx : a.eval x = .slice (some ad) m c) (hown : w.ownsRow base e size v n xs) (hl : news.length = m * size) (hn : ∀ j u, news[j]? = some u → w.cell? (ad.add j) = some u) (h1 : ∀ u ∈ news, u.oneCell' = true)
  (hb : (n + m) * bytes ≤ 70368744177664) (hbytes : 0 < bytes) (hbase : base ≤ w.heap.size)
  (h : ∀ v' w', w'.ownsRow base e size v' (n + m) (xs ++ news) → w.grownBy w' v.ownBlock → (∀ x, v'.ownBlock = some x → v.ownBlock = some x ∨ w.heap.size ≤ x) → K (a.put o.dst v') w') :
  if Region.wanted o (yielded ops a.tmps) = true then Oper.wp P o a w K Q else E := by
 have hw : Region.wanted o (yielded ops a.tmps) = true := by simp [Region.wanted, hgd]
 rw [if_pos hw]
 have h63 : n + m ≤ 70368744177664 := Nat.le_trans (Nat.le_mul_of_pos_right _ hbytes) hb
 have hml : n + m ≤ maxLen := by unfold maxLen; omega
 obtain ⟨v', w', hr, h2, h3, h4⟩ := run_app (P := P) w o.type he hsz v n xs hown ad m c news hl hn h1 hml (by omega) hbase
 unfold Oper.wp execOp
 simp only [ho, resolve, invoke, builtin, Sem.run_bind, Sem.run_pure, Result.andThen_ok, List.map_toArray, List.map_cons, List.map_nil, hs, hx, hr]
 exact h v' w' h2 h3 h4
def HB2 (S : Nat → Prop) (J : Nat) (u : Value) (y w : World) : Prop := Mods S y w ∧ w.cell? ⟨J, 1, none⟩ = some u
theorem job0_at (w : World) : JobAt w noJob (.slice none 0 0) (.slice none 0 0) (.slice none 0 0) := ⟨rs_nil _ _, rs_nil _ _, row_nil _⟩
/-- a job in memory of its own: all its blocks from base on -/
def JobOwn (w : World) (base : Nat) (j : JobP) (vt vs vb : Value) : Prop := w.ownsRow base 75 3 vt j.tos.length (j.tos.flatMap tgC) ∧ w.ownsRow base 57 4 vs j.st.length (j.st.flatMap stC) ∧ Piece w base 5 vb (j.body.map u8v)
theorem JobOwn.at_ {w : World} {base : Nat} {j : JobP} {vt vs vb : Value} (h : JobOwn w base j vt vs vb) : JobAt w j vt vs vb := ⟨rowS_own h.1, rowS_own h.2.1, h.2.2.row⟩
def ReadOwn (W : World) (r : JobP × Int × Int) (e : Ending) (w' : World) : Prop :=
 ∃ vt vs vb, e = .returned (.tuple #[.agg (jobA r.1 vt vs vb), .int .i64 r.2.1, .int .i64 r.2.2]) ∧ JobOwn w' W.heap.size r.1 vt vs vb ∧ Keeps W w'
theorem job0_own (w : World) (base : Nat) : JobOwn w base noJob (.slice none 0 0) (.slice none 0 0) (.slice none 0 0) := ⟨World.ownsRow_nil _ _ _ _, World.ownsRow_nil _ _ _ _, Piece.nil _ _ _⟩
set_option maxRecDepth 100000 in
set_option maxHeartbeats 4000000 in
theorem read_own (v : Value) (l : List UInt8) (w : World) (hr : Row w v (l.map u8v)) (hl : l.length ≤ 549755813887) : Calls Tryz.prog 88 #[v] w (ReadOwn w (readR l)) := by
 obtain ⟨p, cap, rfl, hc1, hc2⟩ := hr.formB
 have HX := Lib.hid (Blk.new w 55 (jobC 0 0 [] [] (.slice none 0 0)) rfl)
 have HK := Lib.hid ((Keeps.refl w).alloc (.cells (jobC 0 0 [] [] (.slice none 0 0)) 55))
 have HRO := Lib.hid (row_any _ l _ (hr.keeps HK.out) (by omega))
 obtain ⟨ha1, ha2, ha3⟩ := rowR_all l
 have HA := Lib.hid ha1
 have HRF := Lib.hid (show readR l = readF (rowR l).1 from rfl)
 clear hr ha1
 generalize readR l = R at *
 generalize (rowR l).1 = fs0 at *
 go_enter Tryz.func88, Tryz.ntmps88
 go_wp2_with fail
 unfold RowDid at HRO
 refine HRO.out.mono ?_
 rintro e w1 ⟨v1, F, rfl, hf, hfe, hk1⟩
 subst hfe
 have HF1 := Lib.hid (show FrmsR w1 (w.alloc (.cells (jobC 0 0 [] [] (.slice none 0 0)) 55)).heap.size v1 F from ⟨rowS_own hf.own, hf.pay, fun x hx => by have := (HA.out x.1 (List.mem_map.2 ⟨x, hx, rfl⟩)).2; omega, fun b off n cap hv hn => by
  rcases hf.own.2 with ⟨h, _⟩ | ⟨g, cp, cur, h, hb, hgg, _⟩
  ·rw [hv] at h; simp at h
  ·rw [hv] at h
   simp only [Value.slice.injEq, Option.some.injEq, Addr.mk.injEq] at h
   obtain ⟨⟨rfl, -, -⟩, -, -⟩ := h
   exact ⟨_, _, hgg⟩⟩)
 have HX1 := Lib.hid (HX.out.keeps hk1)
 have HK1 := Lib.hid (HK.out.trans hk1)
 obtain ⟨p1, c1, rfl, -, -⟩ := FrmsR.form HF1.out
 have HBS := Lib.hid (show w.heap.size ≤ (w.alloc (.cells (jobC 0 0 [] [] (.slice none 0 0)) 55)).heap.size from HK.out.size)
 generalize (w.alloc (.cells (jobC 0 0 [] [] (.slice none 0 0)) 55)).heap.size = base at *
 clear hf hk1 HRO HX HK
 rw [List.length_map] at ha3
 generalize hJ : w.heap.size = J at *
 have HJJ := Lib.hid hJ
 clear hJ
 have HFR : Hid (∀ j (hj : j < F.length), ∃ b off, p1 = some ⟨b, off, none⟩ ∧ w1.rangeAt b (off + j * 4) (frC F[j])) := Lib.hid (fun j hj => by
  obtain ⟨b, off, cap', hv, hrg⟩ := HF1.out.at_ hj
  simp only [Value.slice.injEq] at hv
  exact ⟨b, off, hv.1, hrg⟩)
 go_upto_region 2 with fail
 obtain ⟨bad, hbad⟩ : ∃ b, (!good1 (F.map (·.1))) = b := ⟨_, rfl⟩
 have HBAD := Lib.hid hbad
 clear hbad
 generalize (rowR l).2.1 = ru at *
 generalize (rowR l).2.2 = re at *
 go_cut [44] (fun t wx => t = .bool bad ∧ wx = w1)
 case first =>
  by_cases h2 : F.length < 2
  ·have e1 : decide ((F.length : Int) < 2) = true := decide_eq_true (by omega)
   have e2 : decide (F.length < 2) = true := decide_eq_true h2
   have HB := Lib.hid (show bad = true from by rw [← HBAD.out, good1_short (by rw [List.length_map]; exact h2)]; rfl)
   clear h2
   go_wp2_with fail
   go_meet
   exact ⟨by rw [HB.out], rfl⟩
  ·have e1 : decide ((F.length : Int) < 2) = false := decide_eq_false (by omega)
   have e2 : decide (F.length < 2) = false := decide_eq_false h2
   have hl0 : 0 < F.length := by omega
   have hl1 : 1 < F.length := by omega
   obtain ⟨b, off, rfl, h0⟩ := HFR.out 0 hl0
   obtain ⟨b', off', hp, h1⟩ := HFR.out 1 hl1
   simp only [Option.some.injEq, Addr.mk.injEq] at hp
   obtain ⟨rfl, rfl, -⟩ := hp
   have HB := Lib.hid (show bad = !(decide (F[0].1.kind = 16) && decide (F[1].1.kind = 17) && decide (F[1].1.pay.length ≤ 32768)) from by
    rw [← HBAD.out, good1_two (by rw [List.length_map]; omega)]
    simp)
   have hpay := HF1.out.pay F[1] (List.getElem_mem hl1)
   generalize F[0] = x0 at *
   generalize F[1] = x1 at *
   obtain ⟨⟨a0, n0, k0, y0⟩, z0⟩ := x0
   obtain ⟨⟨a1, n1, k1, y1⟩, z1⟩ := x1
   obtain ⟨pz, cz, hz, -, -⟩ := hpay.form
   simp only [List.length_map] at hz HB
   subst hz
   have d0 : w1.cell? ⟨b, off + 2, none⟩ = some (.int .i64 k0) := h0 2 _ rfl
   have d1 : w1.cell? ⟨b, off + 4 + 2, none⟩ = some (.int .i64 k1) := by have := h1 2 _ rfl; rwa [Nat.one_mul] at this
   have d2 : w1.cell? ⟨b, off + 4 + 3, none⟩ = some (.slice pz y1.length cz) := by have := h1 3 _ rfl; rwa [Nat.one_mul] at this
   clear h0 h1 hpay h2
   by_cases hk0 : k0 = 16
   ·have f0 : (k0 != 16) = false := by simp [hk0]
    by_cases hk1 : k1 = 17
    ·have f1 : (k1 != 17) = false := by simp [hk1]
     by_cases hy : y1.length ≤ 32768
     ·have f2 : decide ((32768 : Int) < (y1.length : Int)) = false := decide_eq_false (by omega)
      have f3 : decide (32768 < y1.length) = false := decide_eq_false (by omega)
      have HB2 := Lib.hid (show bad = false from by rw [HB.out]; simp [hk0, hk1, hy])
      clear hk0 hk1 hy
      go_wp2_with fail
      go_meet
      exact ⟨by rw [HB2.out], rfl⟩
     ·have f2 : decide ((32768 : Int) < (y1.length : Int)) = true := decide_eq_true (by omega)
      have f3 : decide (32768 < y1.length) = true := decide_eq_true (by omega)
      have HB2 := Lib.hid (show bad = true from by rw [HB.out]; simp [hy])
      clear hk0 hk1 hy
      go_wp2_with fail
      go_meet
      exact ⟨by rw [HB2.out], rfl⟩
    ·have f1 : (k1 != 17) = true := by simp [hk1]
     have HB2 := Lib.hid (show bad = true from by rw [HB.out]; simp [hk1])
     clear hk0 hk1
     go_wp2_with fail
     go_meet
     exact ⟨by rw [HB2.out], rfl⟩
   ·have f0 : (k0 != 16) = true := by simp [hk0]
    have HB2 := Lib.hid (show bad = true from by rw [HB.out]; simp [hk0])
    clear hk0
    go_wp2_with fail
    go_meet
    exact ⟨by rw [HB2.out], rfl⟩
 case rest =>
 obtain ⟨rfl, rfl⟩ := hcut
 have HG1 := Lib.hid (show good1 (F.map (·.1)) = !bad from by rw [← HBAD.out]; simp)
 clear HBAD
 cases bad with
 |true =>
  have HR := Lib.hid (show R = (noJob, 0, 12) from by rw [HRF.out]; exact readF_bad HG1.out)
  go_wp2_with (first | refine wpList_ld rfl jobM HX1.out _ rfl rfl ?_ | (refine wpList_st rfl jobM HX1.out rfl (by simp [Value.oneCell']) _ _ rfl rfl rfl rfl ?_; intro yF hBF hMF; have FF := Lib.hid (show yF.cell? ⟨J, 0, none⟩ = some (.int .i64 0) ∧ yF.cell? ⟨J, 1, none⟩ = some (.int .i64 0) ∧ yF.cell? ⟨J, 2, none⟩ = some (.string (bstr [])) ∧ yF.cell? ⟨J, 3, none⟩ = some (.string (bstr [])) ∧ yF.cell? ⟨J, 4, none⟩ = some (.slice none 0 0) ∧ yF.cell? ⟨J, 5, none⟩ = some (.slice none 0 0) ∧ yF.cell? ⟨J, 6, none⟩ = some (.slice none 0 0) from ⟨by rw [hBF.cell]; rfl, by rw [hBF.cell]; rfl, by rw [hBF.cell]; rfl, by rw [hBF.cell]; rfl, by rw [hBF.cell]; rfl, by rw [hBF.cell]; rfl, by rw [hBF.cell]; rfl⟩); have HKF := Lib.hid (hMF.keeps HK1.out (fun x hx => by rw [hx, ← HJJ.out]; exact Nat.le_refl _)); clear hBF hMF))
  exact bodyPost_ret (v := .tuple #[.agg (jobA noJob (.slice none 0 0) (.slice none 0 0) (.slice none 0 0)), .int .i64 0, .int .i64 12]) (by simp [results, Tryz.results88, go_sem, noJob, FF.out.1, FF.out.2.1, FF.out.2.2.1, FF.out.2.2.2.1, FF.out.2.2.2.2.1, FF.out.2.2.2.2.2.1, FF.out.2.2.2.2.2.2]) rfl ⟨_, _, _, by rw [HR.out], by rw [HR.out]; exact job0_own _ _, HKF.out⟩
 |false =>
 have hl2 : 2 ≤ F.length := by have := good1_len HG1.out; rwa [List.length_map] at this
 have hl0 : 0 < F.length := by omega
 have hl1 : 1 < F.length := by omega
 obtain ⟨b, off, rfl, h0⟩ := HFR.out 0 hl0
 obtain ⟨b', off', hp, h1⟩ := HFR.out 1 hl1
 simp only [Option.some.injEq, Addr.mk.injEq] at hp
 obtain ⟨rfl, rfl, -⟩ := hp
 have HR2 := Lib.hid (show R = (if envOk (envR 100 capId capT F[0].1.pay) F[0].1.pay = true then
   let j := (envR 100 capId capT F[0].1.pay).1
   let s := stepsR j.tos.length ((F.map (·.1)).drop 2) (List.replicate j.tos.length (freshS j.arr))
   ({ j with st := s.1, body := F[1].1.pay }, F[0].1.len + F[1].1.len + s.2, 0)
  else (noJob, 0, 12)) from by
  have h3 : 2 ≤ (F.map (·.1)).length := by rw [List.length_map]; exact hl2
  have h4 := HG1.out
  rw [good1_two h3] at h4
  rw [HRF.out, readF_two h3]
  simp only [List.getElem_map, Bool.not_false, Bool.and_eq_true, decide_eq_true_eq] at h4 ⊢
  by_cases h5 : envOk (envR 100 capId capT F[0].1.pay) F[0].1.pay = true
  ·rw [if_pos ⟨h4.1.1, h4.1.2, h4.2, h5⟩, if_pos h5]
  ·rw [if_neg (fun h => h5 h.2.2.2), if_neg h5])
 have hpay0 := HF1.out.pay F[0] (List.getElem_mem hl0)
 have hpay1 := HF1.out.pay F[1] (List.getElem_mem hl1)
 have hpl0 := HF1.out.len F[0] (List.getElem_mem hl0)
 have HLN := Lib.hid (show 0 ≤ F[0].1.len ∧ 0 ≤ F[1].1.len ∧ F[0].1.len + F[1].1.len + lenS ((F.map (·.1)).drop 2) ≤ (l.length : Int) from by
  refine ⟨(HA.out _ (List.mem_map.2 ⟨F[0], List.getElem_mem hl0, rfl⟩)).1, (HA.out _ (List.mem_map.2 ⟨F[1], List.getElem_mem hl1, rfl⟩)).1, ?_⟩
  have e : F.map (·.1) = F[0].1 :: F[1].1 :: (F.map (·.1)).drop 2 := by
   rw [show (F.map (·.1)).drop 2 = ((F.map (·.1)).drop 0).drop 2 from by simp]
   have h3 : 2 ≤ (F.map (·.1)).length := by rw [List.length_map]; exact hl2
   generalize hm : F.map (·.1) = m at *
   have e0 : F[0].1 = m[0] := by simp [← hm]
   have e1 : F[1].1 = m[1] := by simp [← hm]
   rw [e0, e1]
   match m, h3 with
   | [], h => simp at h
   | [_], h => simp at h
   | _ :: _ :: _, _ => rfl
  rw [e, lenS_cons, lenS_cons] at ha2
  omega)
 have HNN := Lib.hid (fun (f : Fr1) (hf : f ∈ (F.map (·.1)).drop 2) => (HA.out f (List.mem_of_mem_drop hf)).1)
 generalize hx0 : F[0] = x0 at *
 generalize hx1 : F[1] = x1 at *
 obtain ⟨⟨a0, n0, k0, y0⟩, z0⟩ := x0
 obtain ⟨⟨a1, n1, k1, y1⟩, z1⟩ := x1
 have HXE := Lib.hid (And.intro hx0 hx1)
 clear hx0 hx1
 obtain ⟨pz0, cz0, hz, -, -⟩ := hpay0.form
 simp only [List.length_map] at hz
 subst hz
 obtain ⟨pz1, cz1, hz, -, -⟩ := hpay1.form
 simp only [List.length_map] at hz
 subst hz
 simp only at HR2 HLN hpl0
 have d3 : wc.cell? ⟨b, off + 3, none⟩ = some (.slice pz0 y0.length cz0) := h0 3 _ rfl
 have HC1 := Lib.hid (show wc.cell? ⟨b, off + 1, none⟩ = some (.int .i64 n0) ∧ wc.cell? ⟨b, off + 4 + 1, none⟩ = some (.int .i64 n1) ∧ wc.cell? ⟨b, off + 4 + 3, none⟩ = some (.slice pz1 y1.length cz1) from ⟨h0 1 _ rfl, by have := h1 1 _ rfl; rwa [Nat.one_mul] at this, by have := h1 3 _ rfl; rwa [Nat.one_mul] at this⟩)
 have HP1 := Lib.hid hpay1
 have HEV := Lib.hid (readEnv_any wc _ y0 hpay0.row hpl0)
 clear h0 h1 hpay0 hpay1 hpl0 HFR HG1 HA HRF ha2
 unfold EnvRet at HEV
 have HEB := Lib.hid (show envOk (envR 100 capId capT y0) y0 = true → (envR 100 capId capT y0).1.tos.length ≤ 20 from fun h => by
  unfold envOk at h
  rw [Bool.and_eq_true] at h
  exact envB_len h.2)
 generalize envOk (envR 100 capId capT y0) y0 = ok at *
 generalize envR 100 capId capT y0 = ev at *
 go_wp2_with fail
 refine HEV.out.mono ?_
 rintro e w2 ⟨⟨id, arr, fl, fd, T, st0, bd0⟩, pt, nt, ct, ok', rfl, rfl, hok, hk⟩
 simp only at hok
 have HOK := Lib.hid hok
 have HKE := Lib.hid hk
 clear hok hk HEV d3
 have HX2 := Lib.hid (HX1.out.keeps HKE.out)
 have HK2 := Lib.hid (HK1.out.trans HKE.out)
 go_upto_region 5 with (refine wpList_st (ds := jobC id arr fl fd (.slice pt nt ct)) rfl jobM HX2.out rfl (by simp [Value.oneCell']) _ _ rfl rfl rfl rfl ?_; intro w3 hB3 hM3; have HB3 := Lib.hid (show Blk w3 J 55 (jobC id arr fl fd (.slice pt nt ct)) from hB3); have HM3 := Lib.hid hM3; clear hB3 hM3)
 cases ok' with
 |false =>
  have HR := Lib.hid (show R = (noJob, 0, 12) from by rw [HR2.out]; rfl)
  have HK3 := Lib.hid (HM3.out.keeps HK2.out (fun x hx => by rw [hx, ← HJJ.out]; exact Nat.le_refl _))
  go_wp2_with (refine wpList_st (ds := jobC 0 0 [] [] (.slice none 0 0)) rfl jobM HB3.out rfl (by simp [Value.oneCell']) _ _ rfl rfl rfl rfl ?_; intro yF hBF hMF; have FF := Lib.hid (show yF.cell? ⟨J, 0, none⟩ = some (.int .i64 0) ∧ yF.cell? ⟨J, 1, none⟩ = some (.int .i64 0) ∧ yF.cell? ⟨J, 2, none⟩ = some (.string (bstr [])) ∧ yF.cell? ⟨J, 3, none⟩ = some (.string (bstr [])) ∧ yF.cell? ⟨J, 4, none⟩ = some (.slice none 0 0) ∧ yF.cell? ⟨J, 5, none⟩ = some (.slice none 0 0) ∧ yF.cell? ⟨J, 6, none⟩ = some (.slice none 0 0) from ⟨by rw [hBF.cell]; rfl, by rw [hBF.cell]; rfl, by rw [hBF.cell]; rfl, by rw [hBF.cell]; rfl, by rw [hBF.cell]; rfl, by rw [hBF.cell]; rfl, by rw [hBF.cell]; rfl⟩); have HKF := Lib.hid (hMF.keeps HK3.out (fun x hx => by rw [hx, ← HJJ.out]; exact Nat.le_refl _)); clear hBF hMF)
  exact bodyPost_ret (v := .tuple #[.agg (jobA noJob (.slice none 0 0) (.slice none 0 0) (.slice none 0 0)), .int .i64 0, .int .i64 12]) (by simp [results, Tryz.results88, go_sem, noJob, FF.out.1, FF.out.2.1, FF.out.2.2.1, FF.out.2.2.2.1, FF.out.2.2.2.2.1, FF.out.2.2.2.2.2.1, FF.out.2.2.2.2.2.2]) rfl ⟨_, _, _, by rw [HR.out], by rw [HR.out]; exact job0_own _ _, HKF.out⟩
 |true =>
 obtain ⟨hje, hto⟩ := HOK.out rfl
 have HR3 := Lib.hid (show R = (⟨id, arr, fl, fd, T, (stepsR T.length ((F.map (·.1)).drop 2) (List.replicate T.length (freshS arr))).1, y1⟩, n0 + n1 + (stepsR T.length ((F.map (·.1)).drop 2) (List.replicate T.length (freshS arr))).2, 0) from by
  rw [HR2.out, ← hje]
  rfl)
 have hnt : nt = T.length := by
  obtain ⟨p', c', h, -, -⟩ := ownsRow_form hto
  simp only [Value.slice.injEq] at h
  exact h.2.1
 subst hnt
 have htl : T.length ≤ 20 := by
  have := HEB.out rfl
  rw [← hje] at this
  exact this
 clear HEB
 have HJE := Lib.hid hje
 have HRD := Lib.hid (show RdSt w w3 J base id arr fl fd (.slice pt T.length ct) T (.slice none 0 0) [] (.slice none 0 0) [] (.slice (some ⟨b, off, none⟩) F.length c1) F from
  ⟨HB3.out, ownsRow_mods (ownsRow_lower3 hto HK1.out.size) HM3.out (fun x hx e => ownsRow_ne hto HX2.out (by decide) (by rw [hx, e])), World.ownsRow_nil _ _ _ _,
   (HF1.out.keeps HKE.out).modsT HM3.out (fun x hx => by subst hx; exact blk_ty HX2.out (by decide)) (fun x hx => by subst hx; exact blk_ty HX2.out (by decide)), Piece.nil _ _ _, HM3.out.keeps HK2.out (fun x hx => by rw [hx, ← HJJ.out]; exact Nat.le_refl _), by rw [HJJ.out]; exact Nat.le_refl _⟩)
 have HC3 := Lib.hid (show w3.cell? ⟨b, off + 4 + 3, none⟩ = some (.slice pz1 y1.length cz1) ∧ Piece w3 base 5 (.slice pz1 y1.length cz1) (y1.map u8v) from by
  have hbJ : b ≠ J := fun e => by
   obtain ⟨cs, fr, hh⟩ := HF1.out.ty b off F.length c1 rfl hl0
   exact blk_ty HX1.out (e := 178) (by decide) cs fr (by rw [← e]; exact hh)
  exact ⟨HM3.out.cell (keep1 HKE.out HC1.out.2.2) hbJ, (HP1.out.keeps HKE.out).modsT HM3.out (fun x hx => by subst hx; exact blk_ty HX2.out (by decide))⟩)
 clear hje hto HR2 HOK HX1 HX2 HK1 HK2 HKE HB3 HM3 HC1 HP1 HF1
 have c3 := HC3.out.1
 have j6 : w3.cell? ⟨J, 6, none⟩ = some (.slice none 0 0) := by rw [HRD.out.job.cell]; rfl
 have f6 : w3.frozen? ⟨J, 6, none⟩ = false := HRD.out.job.frozen _
 have HR4 := Lib.hid (HRD.out.writeB HC3.out.2)
 go_upto_region 8 with fail
 generalize w3.setCell ⟨J, 6, none⟩ (.slice pz1 y1.length cz1) = w4 at *
 clear c3 j6 f6 HRD HC3
 have j4 : w4.cell? ⟨J, 4, none⟩ = some (.slice pt T.length ct) := by rw [HR4.out.job.cell]; rfl
 go_wp2_with fail
 clear j4
 go_loopw [65] (fun iv wr => ∃ (i : Nat) (vs : Value), iv = .int .i64 (i : Int) ∧ i ≤ T.length ∧ Hid (RdSt w wr J base id arr fl fd (.slice pt T.length ct) T vs (List.replicate i (freshS arr)) (.slice pz1 y1.length cz1) y1 (.slice (some ⟨b, off, none⟩) F.length c1) F)) (fun iv _ => T.length - (intOf iv).toNat)
 case atStart => exact ⟨0, _, rfl, Nat.zero_le _, HR4⟩
 case round =>
  obtain ⟨i, vs, rfl, hi, HD⟩ := hrel
  by_cases hlt : i < T.length
  ·have hw : IntKind.i64.wrap ((i : Int) + 1) = (i : Int) + 1 := IntWalk.i64_in _ (by omega)
   obtain ⟨S, hS⟩ : ∃ S, List.replicate i (freshS arr) = S := ⟨_, rfl⟩
   have HSN := Lib.hid (show List.replicate (i + 1) (freshS arr) = S ++ [freshS arr] from by rw [← hS, List.replicate_succ'])
   have hsl : S.length ≤ 20 := by rw [← hS, List.length_replicate]; omega
   rw [hS] at HD
   clear hS
   obtain ⟨ps, cs, rfl, -, -⟩ := ownsRow_form HD.out.sts
   go_upto_block 1 with fail
   go_cut [74] (fun _ wx => ∃ vs' : Value, Hid (RdSt w wx J base id arr fl fd (.slice pt T.length ct) T vs' (S ++ [freshS arr]) (.slice pz1 y1.length cz1) y1 (.slice (some ⟨b, off, none⟩) F.length c1) F))
   case first =>
    have HD0 := Lib.hid (HD.out.kept ((Keeps.refl wr).drew))
    have j1 : wr.cell? ⟨J, 1, none⟩ = some (.int .i64 arr) := by rw [HD.out.job.cell]; rfl
    go_wp2_with fail
    refine wp_region_noPanic ?_
    refine wp_region_held_drew (S := fun w' => HB2 (fun x => x = J ∨ (Value.slice ps S.length cs).ownBlock = some x) J (.int .i64 arr) wr w') (by kernel_rfl) ((⟨(Mods.refl (fun x => x = J ∨ (Value.slice ps S.length cs).ownBlock = some x) wr).drew, j1⟩ : HB2 (fun x => x = J ∨ (Value.slice ps S.length cs).ownBlock = some x) J (.int .i64 arr) wr wr.drew)) (fun _ => ?_)
    have hHeld : HB2 (fun x => x = J ∨ (Value.slice ps S.length cs).ownBlock = some x) J (.int .i64 arr) wr (wr).drew := (⟨(Mods.refl (fun x => x = J ∨ (Value.slice ps S.length cs).ownBlock = some x) wr).drew, j1⟩ : HB2 (fun x => x = J ∨ (Value.slice ps S.length cs).ownBlock = some x) J (.int .i64 arr) wr wr.drew)
    generalize World.drew wr = xs at *
    refine tq 0 67 ?_
    refine tq 2 69 ?_
    refine tq 3 70 ?_ (hy := fun w' hSw => by
     have hSw : HB2 (fun x => x = J ∨ (Value.slice ps S.length cs).ownBlock = some x) J (.int .i64 arr) wr w' := hSw
     have hx := hSw.2
     clear hSw
     go_simp
     try with_reducible rfl)
    refine wpAnyH_ready (rs := [1, 4]) (by kernel_rfl) (by simp) ?_
    refine AllReadyH.cons (o := _) rfl (fun K hK => ?_) ?_
    ·have hx : World.cell? xs ⟨J, 5, none⟩ = some (.slice ps S.length cs) := by rw [HD0.out.job.cell]; rfl
     go_simp
     clear hx
     have hb := hHeld
     refine bkm hK hb ?_
     clear hK K hHeld
     have hHeld : HB2 (fun x => x = J ∨ (Value.slice ps S.length cs).ownBlock = some x) J (.int .i64 arr) wr xs := hb
     clear hb
     refine rd1 4 (fun K hK => ?_)
     go_simp
     refine (fresh_any _ _).mono ?_
     rintro e z4 ⟨rfl, hk⟩
     have HD4 := Lib.hid (HD0.out.kept hk)
     have hb : HB2 (fun x => x = J ∨ (Value.slice ps S.length cs).ownBlock = some x) J (.int .i64 arr) wr z4 := ⟨hHeld.1.then hk, keep1 hk hHeld.2⟩
     clear hk
     go_wp2_with fail
     refine bkm hK hb ?_
     clear hK K hHeld
     have hHeld : HB2 (fun x => x = J ∨ (Value.slice ps S.length cs).ownBlock = some x) J (.int .i64 arr) wr z4 := hb
     clear hb
     refine rd1 5 (fun K hK => ?_)
     go_simp
     obtain ⟨b5, hb5⟩ : ∃ z, z = (World.heap z4).size := ⟨_, rfl⟩
     have HB5 := Lib.hid (show Blk (World.alloc z4 (.cells #[.int .i64 0, .int .i64 0, .int .i64 arr, .int .i64 0] 57)) b5 57 #[.int .i64 0, .int .i64 0, .int .i64 arr, .int .i64 0] from Blk.new _ _ _ hb5)
     have HD5 := Lib.hid (HD4.out.kept ((Keeps.refl _).alloc (.cells #[.int .i64 0, .int .i64 0, .int .i64 arr, .int .i64 0] 57)))
     have hb : HB2 (fun x => x = J ∨ (Value.slice ps S.length cs).ownBlock = some x) J (.int .i64 arr) wr (World.alloc z4 (.cells #[.int .i64 0, .int .i64 0, .int .i64 arr, .int .i64 0] 57)) := ⟨hHeld.1.alloc _, keep1 ((Keeps.refl _).alloc _) hHeld.2⟩
     have HBB := Lib.hid hb5
     clear hb5
     generalize World.alloc z4 (.cells #[.int .i64 0, .int .i64 0, .int .i64 arr, .int .i64 0] 57) = x5 at *
     refine bkm hK hb ?_
     clear hK K hHeld
     have hHeld : HB2 (fun x => x = J ∨ (Value.slice ps S.length cs).ownBlock = some x) J (.int .i64 arr) wr x5 := hb
     clear hb
     refine rd1 6 (fun K hK => ?_)
     refine step_appG (base := w.heap.size) stok (by decide) rfl _ _ rfl (Value.slice ps S.length cs) S.length 1 1 ⟨b5, 0, none⟩ (S.flatMap stC) [.int .i64 0, .int .i64 0, .int .i64 arr, .int .i64 0] rfl (congrArg (fun g => Value.slice (some ⟨g, 0, none⟩) 1 1) HBB.out.symm) HD5.out.sts rfl (fun j y hy => by rw [Go.WideShapes.add_plain, HB5.out.cell, Nat.zero_add]; simpa using hy) (by simp [Value.oneCell']) (by omega) (by decide) HD5.out.keeps.size ?_
     intro v6 x6 ho6 hg6 hf6
     obtain ⟨p6, c6, rfl, -, -⟩ := Frm.ownsRow_form ho6
     have HJ6 := Lib.hid (HD5.out.job.grown hg6 (ownsRow_ne HD5.out.sts HD5.out.job (by decide)))
     have HD6 := Lib.hid (HD5.out.grown (x := freshS arr) (Keeps.refl _) hg6 ho6)
     have hb : HB2 (fun x => x = J ∨ (Value.slice ps S.length cs).ownBlock = some x) J (.int .i64 arr) wr x6 := ⟨hHeld.1.grown hg6 (fun k hk _ => .inr hk), by rw [HJ6.out.cell]; rfl⟩
     clear ho6 hg6 hf6 HB5
     show K (Act.put _ (some 73) _) x6
     refine bkm hK hb ?_
     clear hK K hHeld
     have hHeld : HB2 (fun x => x = J ∨ (Value.slice ps S.length cs).ownBlock = some x) J (.int .i64 arr) wr x6 := hb
     clear hb
     refine tq 7 74 ?_
     refine rd1 8 (fun K hK => ?_)
     have hx : World.cell? x6 ⟨J, 5, none⟩ = some (.slice ps S.length cs) := by rw [HJ6.out.cell]; rfl
     have hz : World.frozen? x6 ⟨J, 5, none⟩ = false := HJ6.out.frozen 5
     go_simp
     have hb : HB2 (fun x => x = J ∨ (Value.slice ps S.length cs).ownBlock = some x) J (.int .i64 arr) wr (World.setCell x6 ⟨J, 5, none⟩ (.slice p6 (S.length + 1) c6)) := ⟨hHeld.1.setCell (p := ⟨J, 5, none⟩) (fun _ => .inl rfl) _, by rw [HD6.out.job.cell]; rfl⟩
     clear hx hz
     generalize World.setCell x6 ⟨J, 5, none⟩ (.slice p6 (S.length + 1) c6) = xF at *
     refine bkm hK hb ?_
     clear hK K hHeld
     have hHeld : HB2 (fun x => x = J ∨ (Value.slice ps S.length cs).ownBlock = some x) J (.int .i64 arr) wr xF := hb
     clear hb
     refine wpAnyH_done (by kernel_rfl) ?_ _
     refine NoPanic.normal ?_
     go_wp2_with fail
     go_meet
     exact ⟨_, HD6⟩
    refine AllReadyH.cons (o := _) rfl (fun K hK => ?_) ?_
    ·go_simp
     refine (fresh_any _ _).mono ?_
     rintro e z4 ⟨rfl, hk⟩
     have HD4 := Lib.hid (HD0.out.kept hk)
     have hb : HB2 (fun x => x = J ∨ (Value.slice ps S.length cs).ownBlock = some x) J (.int .i64 arr) wr z4 := ⟨hHeld.1.then hk, keep1 hk hHeld.2⟩
     clear hk
     go_wp2_with fail
     refine bkm hK hb ?_
     clear hK K hHeld
     have hHeld : HB2 (fun x => x = J ∨ (Value.slice ps S.length cs).ownBlock = some x) J (.int .i64 arr) wr z4 := hb
     clear hb
     refine wpAnyH_ready (rs := [1, 5]) (by kernel_rfl) (by simp) ?_
     refine AllReadyH.cons (o := _) rfl (fun K hK => ?_) ?_
     ·have hx : World.cell? z4 ⟨J, 5, none⟩ = some (.slice ps S.length cs) := by rw [HD4.out.job.cell]; rfl
      go_simp
      clear hx
      have hb := hHeld
      refine bkm hK hb ?_
      clear hK K hHeld
      have hHeld : HB2 (fun x => x = J ∨ (Value.slice ps S.length cs).ownBlock = some x) J (.int .i64 arr) wr z4 := hb
      clear hb
      refine rd1 5 (fun K hK => ?_)
      go_simp
      obtain ⟨b5, hb5⟩ : ∃ z, z = (World.heap z4).size := ⟨_, rfl⟩
      have HB5 := Lib.hid (show Blk (World.alloc z4 (.cells #[.int .i64 0, .int .i64 0, .int .i64 arr, .int .i64 0] 57)) b5 57 #[.int .i64 0, .int .i64 0, .int .i64 arr, .int .i64 0] from Blk.new _ _ _ hb5)
      have HD5 := Lib.hid (HD4.out.kept ((Keeps.refl _).alloc (.cells #[.int .i64 0, .int .i64 0, .int .i64 arr, .int .i64 0] 57)))
      have hb : HB2 (fun x => x = J ∨ (Value.slice ps S.length cs).ownBlock = some x) J (.int .i64 arr) wr (World.alloc z4 (.cells #[.int .i64 0, .int .i64 0, .int .i64 arr, .int .i64 0] 57)) := ⟨hHeld.1.alloc _, keep1 ((Keeps.refl _).alloc _) hHeld.2⟩
      have HBB := Lib.hid hb5
      clear hb5
      generalize World.alloc z4 (.cells #[.int .i64 0, .int .i64 0, .int .i64 arr, .int .i64 0] 57) = x5 at *
      refine bkm hK hb ?_
      clear hK K hHeld
      have hHeld : HB2 (fun x => x = J ∨ (Value.slice ps S.length cs).ownBlock = some x) J (.int .i64 arr) wr x5 := hb
      clear hb
      refine rd1 6 (fun K hK => ?_)
      refine step_appG (base := w.heap.size) stok (by decide) rfl _ _ rfl (Value.slice ps S.length cs) S.length 1 1 ⟨b5, 0, none⟩ (S.flatMap stC) [.int .i64 0, .int .i64 0, .int .i64 arr, .int .i64 0] rfl (congrArg (fun g => Value.slice (some ⟨g, 0, none⟩) 1 1) HBB.out.symm) HD5.out.sts rfl (fun j y hy => by rw [Go.WideShapes.add_plain, HB5.out.cell, Nat.zero_add]; simpa using hy) (by simp [Value.oneCell']) (by omega) (by decide) HD5.out.keeps.size ?_
      intro v6 x6 ho6 hg6 hf6
      obtain ⟨p6, c6, rfl, -, -⟩ := Frm.ownsRow_form ho6
      have HJ6 := Lib.hid (HD5.out.job.grown hg6 (ownsRow_ne HD5.out.sts HD5.out.job (by decide)))
      have HD6 := Lib.hid (HD5.out.grown (x := freshS arr) (Keeps.refl _) hg6 ho6)
      have hb : HB2 (fun x => x = J ∨ (Value.slice ps S.length cs).ownBlock = some x) J (.int .i64 arr) wr x6 := ⟨hHeld.1.grown hg6 (fun k hk _ => .inr hk), by rw [HJ6.out.cell]; rfl⟩
      clear ho6 hg6 hf6 HB5
      show K (Act.put _ (some 73) _) x6
      refine bkm hK hb ?_
      clear hK K hHeld
      have hHeld : HB2 (fun x => x = J ∨ (Value.slice ps S.length cs).ownBlock = some x) J (.int .i64 arr) wr x6 := hb
      clear hb
      refine tq 7 74 ?_
      refine rd1 8 (fun K hK => ?_)
      have hx : World.cell? x6 ⟨J, 5, none⟩ = some (.slice ps S.length cs) := by rw [HJ6.out.cell]; rfl
      have hz : World.frozen? x6 ⟨J, 5, none⟩ = false := HJ6.out.frozen 5
      go_simp
      have hb : HB2 (fun x => x = J ∨ (Value.slice ps S.length cs).ownBlock = some x) J (.int .i64 arr) wr (World.setCell x6 ⟨J, 5, none⟩ (.slice p6 (S.length + 1) c6)) := ⟨hHeld.1.setCell (p := ⟨J, 5, none⟩) (fun _ => .inl rfl) _, by rw [HD6.out.job.cell]; rfl⟩
      clear hx hz
      generalize World.setCell x6 ⟨J, 5, none⟩ (.slice p6 (S.length + 1) c6) = xF at *
      refine bkm hK hb ?_
      clear hK K hHeld
      have hHeld : HB2 (fun x => x = J ∨ (Value.slice ps S.length cs).ownBlock = some x) J (.int .i64 arr) wr xF := hb
      clear hb
      refine wpAnyH_done (by kernel_rfl) ?_ _
      refine NoPanic.normal ?_
      go_wp2_with fail
      go_meet
      exact ⟨_, HD6⟩
     refine AllReadyH.cons (o := _) rfl (fun K hK => ?_) ?_
     ·go_simp
      obtain ⟨b5, hb5⟩ : ∃ z, z = (World.heap z4).size := ⟨_, rfl⟩
      have HB5 := Lib.hid (show Blk (World.alloc z4 (.cells #[.int .i64 0, .int .i64 0, .int .i64 arr, .int .i64 0] 57)) b5 57 #[.int .i64 0, .int .i64 0, .int .i64 arr, .int .i64 0] from Blk.new _ _ _ hb5)
      have HD5 := Lib.hid (HD4.out.kept ((Keeps.refl _).alloc (.cells #[.int .i64 0, .int .i64 0, .int .i64 arr, .int .i64 0] 57)))
      have hb : HB2 (fun x => x = J ∨ (Value.slice ps S.length cs).ownBlock = some x) J (.int .i64 arr) wr (World.alloc z4 (.cells #[.int .i64 0, .int .i64 0, .int .i64 arr, .int .i64 0] 57)) := ⟨hHeld.1.alloc _, keep1 ((Keeps.refl _).alloc _) hHeld.2⟩
      have HBB := Lib.hid hb5
      clear hb5
      generalize World.alloc z4 (.cells #[.int .i64 0, .int .i64 0, .int .i64 arr, .int .i64 0] 57) = x5 at *
      refine bkm hK hb ?_
      clear hK K hHeld
      have hHeld : HB2 (fun x => x = J ∨ (Value.slice ps S.length cs).ownBlock = some x) J (.int .i64 arr) wr x5 := hb
      clear hb
      refine rd1 1 (fun K hK => ?_)
      have hx : World.cell? x5 ⟨J, 5, none⟩ = some (.slice ps S.length cs) := by rw [HD5.out.job.cell]; rfl
      go_simp
      clear hx
      have hb := hHeld
      refine bkm hK hb ?_
      clear hK K hHeld
      have hHeld : HB2 (fun x => x = J ∨ (Value.slice ps S.length cs).ownBlock = some x) J (.int .i64 arr) wr x5 := hb
      clear hb
      refine rd1 6 (fun K hK => ?_)
      refine step_appG (base := w.heap.size) stok (by decide) rfl _ _ rfl (Value.slice ps S.length cs) S.length 1 1 ⟨b5, 0, none⟩ (S.flatMap stC) [.int .i64 0, .int .i64 0, .int .i64 arr, .int .i64 0] rfl (congrArg (fun g => Value.slice (some ⟨g, 0, none⟩) 1 1) HBB.out.symm) HD5.out.sts rfl (fun j y hy => by rw [Go.WideShapes.add_plain, HB5.out.cell, Nat.zero_add]; simpa using hy) (by simp [Value.oneCell']) (by omega) (by decide) HD5.out.keeps.size ?_
      intro v6 x6 ho6 hg6 hf6
      obtain ⟨p6, c6, rfl, -, -⟩ := Frm.ownsRow_form ho6
      have HJ6 := Lib.hid (HD5.out.job.grown hg6 (ownsRow_ne HD5.out.sts HD5.out.job (by decide)))
      have HD6 := Lib.hid (HD5.out.grown (x := freshS arr) (Keeps.refl _) hg6 ho6)
      have hb : HB2 (fun x => x = J ∨ (Value.slice ps S.length cs).ownBlock = some x) J (.int .i64 arr) wr x6 := ⟨hHeld.1.grown hg6 (fun k hk _ => .inr hk), by rw [HJ6.out.cell]; rfl⟩
      clear ho6 hg6 hf6 HB5
      show K (Act.put _ (some 73) _) x6
      refine bkm hK hb ?_
      clear hK K hHeld
      have hHeld : HB2 (fun x => x = J ∨ (Value.slice ps S.length cs).ownBlock = some x) J (.int .i64 arr) wr x6 := hb
      clear hb
      refine tq 7 74 ?_
      refine rd1 8 (fun K hK => ?_)
      have hx : World.cell? x6 ⟨J, 5, none⟩ = some (.slice ps S.length cs) := by rw [HJ6.out.cell]; rfl
      have hz : World.frozen? x6 ⟨J, 5, none⟩ = false := HJ6.out.frozen 5
      go_simp
      have hb : HB2 (fun x => x = J ∨ (Value.slice ps S.length cs).ownBlock = some x) J (.int .i64 arr) wr (World.setCell x6 ⟨J, 5, none⟩ (.slice p6 (S.length + 1) c6)) := ⟨hHeld.1.setCell (p := ⟨J, 5, none⟩) (fun _ => .inl rfl) _, by rw [HD6.out.job.cell]; rfl⟩
      clear hx hz
      generalize World.setCell x6 ⟨J, 5, none⟩ (.slice p6 (S.length + 1) c6) = xF at *
      refine bkm hK hb ?_
      clear hK K hHeld
      have hHeld : HB2 (fun x => x = J ∨ (Value.slice ps S.length cs).ownBlock = some x) J (.int .i64 arr) wr xF := hb
      clear hb
      refine wpAnyH_done (by kernel_rfl) ?_ _
      refine NoPanic.normal ?_
      go_wp2_with fail
      go_meet
      exact ⟨_, HD6⟩
     exact AllReadyH.nil
    exact AllReadyH.nil
   case rest =>
   obtain ⟨vs', HD2⟩ := hcut
   have HD3 := Lib.hid (show RdSt w wc J base id arr fl fd (.slice pt T.length ct) T vs' (List.replicate (i + 1) (freshS arr)) (.slice pz1 y1.length cz1) y1 (.slice (some ⟨b, off, none⟩) F.length c1) F from by rw [HSN.out]; exact HD2.out)
   clear HD2 HSN
   go_wp2_with fail
   go_roundw
   case rel => exact ⟨i + 1, vs', by simp, by omega, HD3⟩
   case measure =>
    simp only [intOf]
    omega
  ·have hie : i = T.length := by omega
   subst hie
   have hnlt : ¬ ((T.length : Int) < (T.length : Int)) := by omega
   generalize hS0 : List.replicate T.length (freshS arr) = S0 at *
   have HSL := Lib.hid (show S0.length = T.length from by rw [← hS0, List.length_replicate])
   clear hS0 hlt
   obtain ⟨ps, cs, hvs, -, -⟩ := ownsRow_form HD.out.sts
   rw [HSL.out] at hvs
   subst hvs
   have HM0 := Lib.hid (show wr.cell? ⟨b, off + 1, none⟩ = some (.int .i64 n0) ∧ wr.cell? ⟨b, off + 4 + 1, none⟩ = some (.int .i64 n1) from by
    obtain ⟨b2, off2, cap2, hv2, h0⟩ := HD.out.fr.at_ hl0
    obtain ⟨b3, off3, cap3, hv3, h1⟩ := HD.out.fr.at_ hl1
    simp only [Value.slice.injEq, Option.some.injEq, Addr.mk.injEq] at hv2 hv3
    obtain ⟨⟨rfl, rfl, -⟩, -, -⟩ := hv2
    obtain ⟨⟨rfl, rfl, -⟩, -, -⟩ := hv3
    rw [HXE.out.1] at h0
    rw [HXE.out.2] at h1
    exact ⟨h0 1 _ rfl, by have := h1 1 _ rfl; rwa [Nat.one_mul] at this⟩)
   have m0 := HM0.out.1
   have m1 := HM0.out.2
   obtain ⟨p2, hp2⟩ := cutS_sl 4 (some ⟨b, off, none⟩) 2 F.length c1
   have hcut : ∀ w', (Instr.slice 173 (.slice (some ⟨b, off, none⟩) F.length c1) (some (.int .i64 2)) none none).run Tryz.prog w' = .ok (.slice p2 (F.length - 2) (c1 - 2)) w' := fun w' => by
    rw [← hp2, show (2 : Int) = ((2 : Nat) : Int) from rfl]
    exact run_cutS_l w' Tryz.underlying173 (by intro w; kernel_rfl) (some ⟨b, off, none⟩) F.length c1 2 hl2
   have HFG : Hid (∀ wz, FrmsR wz base (.slice (some ⟨b, off, none⟩) F.length c1) F → FrmsR wz base (.slice p2 (F.length - 2) (c1 - 2)) (F.drop 2)) := Lib.hid (fun wz h => by
    have := h.cut (lo := 2) (hi := F.length) hl2 (Nat.le_refl _)
    rw [hp2, List.take_of_length_le (by rw [List.length_drop]; exact Nat.le_refl _)] at this
    exact this)
   have HGL := Lib.hid (show (F.drop 2).length = F.length - 2 from by rw [List.length_drop])
   have HGM := Lib.hid (show (F.map (·.1)).drop 2 = (F.drop 2).map (·.1) from by rw [List.map_drop])
   rw [HGM.out] at HR3 HLN HNN
   generalize F.drop 2 = G at *
   rw [← HGL.out] at HFG hcut
   have hGN : F.length = G.length + 2 := by have := HGL.out; omega
   have HGN := Lib.hid hGN
   have hn0 := HLN.out.1
   have hn1 := HLN.out.2.1
   have hnn : 0 ≤ lenS (G.map (·.1)) := lenS_nn (fun f hf => HNN.out f hf)
   have hns := HLN.out.2.2
   have hwn : IntKind.i64.wrap (n0 + n1) = n0 + n1 := IntWalk.i64_in _ (by omega)
   have HI0 := Lib.hid (And.intro (show 0 ≤ n0 + n1 by omega) hns)
   have hl1' : (1 : Int) < (F.length : Int) := by omega
   clear HM0 HGM hp2 hGN hn0 hn1 hnn hns HXE HLN
   go_wp2_with fail
   refine wp_region_noPanic ?_
   refine wp_region_held_drew (S := fun w' => Keeps wr w') (by kernel_rfl) (((Keeps.refl wr).drew)) (fun _ => ?_)
   have hHeld : Keeps wr (wr).drew := ((Keeps.refl wr).drew)
   generalize World.drew wr = xs at *
   refine tq 0 76 ?_
   refine tq 1 77 ?_
   refine tq 2 78 ?_
   refine tq 3 79 ?_ (hy := fun w' hSw => by
    have hSw : Keeps wr w' := hSw
    have hx := keep1 hSw m0
    clear hSw
    go_simp
    try with_reducible rfl)
   refine tq 4 80 ?_
   refine tq 5 81 ?_
   refine tq 6 82 ?_
   refine tq 7 83 ?_ (hy := fun w' hSw => by
    have hSw : Keeps wr w' := hSw
    have hx := keep1 hSw m1
    clear hSw
    go_simp
    try with_reducible rfl)
   refine tq 8 84 ?_
   refine tq 9 3 ?_
   refine wpAnyH_done (by kernel_rfl) ?_ _
   refine NoPanic.normal ?_
   have HD0 := Lib.hid (HD.out.kept hHeld)
   clear hHeld m0 m1 HD hl0 hl1 hl2 hl1'
   have hgb : G.length ≤ 549755813887 := by have := HGL.out; omega
   go_wp2_with fail
   go_loopw [3, 88] (fun uv iv wx => ∃ (i : Nat) (u : Int) (S : List StP), uv = .int .i64 u ∧ iv = .int .i64 (i : Int) ∧ i ≤ G.length ∧ Hid (RdSt w wx J base id arr fl fd (.slice pt T.length ct) T (.slice ps T.length cs) S (.slice pz1 y1.length cz1) y1 (.slice (some ⟨b, off, none⟩) F.length c1) F) ∧ Hid (S.length = T.length) ∧
    Hid (stepsR T.length (G.map (·.1)) S0 = ((stepsR T.length ((G.drop i).map (·.1)) S).1, (u - (n0 + n1)) + (stepsR T.length ((G.drop i).map (·.1)) S).2)) ∧ Hid (0 ≤ u ∧ u + lenS ((G.drop i).map (·.1)) ≤ (l.length : Int))) (fun _ iv _ => G.length - (intOf iv).toNat)
   case atStart => exact ⟨0, n0 + n1, S0, rfl, rfl, Nat.zero_le _, HD0, HSL, Lib.hid (by simp), Lib.hid (by simpa using HI0.out)⟩
   case round =>
    obtain ⟨i, u, S, rfl, rfl, hi, HD, HSS, HST, HU⟩ := hrel
    obtain ⟨wy, rfl⟩ : ∃ z : World, z = wr := ⟨_, rfl⟩
    by_cases hlt : i < G.length
    ·have hw : IntKind.i64.wrap ((i : Int) + 1) = (i : Int) + 1 := IntWalk.i64_in _ (by omega)
     obtain ⟨b2, off2, cap2, hv2, hrg⟩ := (HFG.out _ HD.out.fr).at_ hlt
     simp only [Value.slice.injEq] at hv2
     obtain ⟨rfl, -, rfl⟩ := hv2
     have hgp := (HFG.out _ HD.out.fr).pay _ (List.getElem_mem hlt)
     have hgl := (HFG.out _ HD.out.fr).len _ (List.getElem_mem hlt)
     have HDC := Lib.hid (show (G.drop i).map (·.1) = G[i].1 :: (G.drop (i + 1)).map (·.1) from by rw [List.drop_eq_getElem_cons hlt]; rfl)
     have HNI := Lib.hid (show 0 ≤ G[i].1.len ∧ 0 ≤ lenS ((G.drop (i + 1)).map (·.1)) from ⟨HNN.out _ (List.mem_map.2 ⟨_, List.getElem_mem hlt, rfl⟩), lenS_nn (fun f hf => by
      obtain ⟨x, hx, rfl⟩ := List.mem_map.1 hf
      exact HNN.out _ (List.mem_map.2 ⟨x, List.mem_of_mem_drop hx, rfl⟩))⟩)
     rw [HDC.out] at HST HU
     rw [lenS_cons] at HU
     generalize G[i] = z at *
     obtain ⟨⟨fa, fn, fk, fp⟩, fv⟩ := z
     obtain ⟨pf, cf, hz, -, -⟩ := hgp.form
     simp only [List.length_map] at hz
     subst hz
     simp only at HST HU HNI hgl
     have HGG := Lib.hid (show wy.rangeAt b2 (off2 + i * 4) [.int .i64 fa, .int .i64 fn, .int .i64 fk, .slice pf fp.length cf] from hrg)
     have HGP := Lib.hid hgp
     have hu0 := HU.out.1
     have hu1 := HU.out.2
     have hu2 := HNI.out.1
     have hu3 := HNI.out.2
     have hwu : IntKind.i64.wrap (u + fn) = u + fn := IntWalk.i64_in _ (by omega)
     have HU2 := Lib.hid (show 0 ≤ u + fn ∧ u + fn + lenS ((G.drop (i + 1)).map (·.1)) ≤ (l.length : Int) from by omega)
     clear hrg hgp hu0 hu1 hu2 hu3 HDC HNI HU
     go_upto_region 16 with (refine wpList_ldR rfl frM HGG.out _ rfl rfl ?_)
     generalize hW : World.alloc wy _ = v1
     have HKy := Lib.hid (show Keeps wy v1 from by rw [← hW]; exact (Keeps.refl _).alloc _)
     have HFy := Lib.hid (show Blk v1 wy.heap.size 178 #[.int .i64 fa, .int .i64 fn, .int .i64 fk, .slice pf fp.length cf] from by rw [← hW]; exact Blk.new _ _ _ rfl)
     clear hW HGG
     have HD1 := Lib.hid (HD.out.kept HKy.out)
     obtain ⟨q, hq⟩ : ∃ q, q = wy.heap.size := ⟨_, rfl⟩
     rw [← hq] at HFy ⊢
     clear hq HD
     have q3 : v1.cell? ⟨q, 3, none⟩ = some (.slice pf fp.length cf) := by rw [HFy.out.cell]; rfl
     have j4 : v1.cell? ⟨J, 4, none⟩ = some (.slice pt T.length ct) := by rw [HD1.out.job.cell]; rfl
     have HRS := Lib.hid (readStep_any v1 _ fp T.length (HGP.out.keeps HKy.out).row hgl (by omega))
     unfold StepRet at HRS
     have HSC := Lib.hid (show stepsR T.length (⟨fa, fn, fk, fp⟩ :: (G.drop (i + 1)).map (·.1)) S = if fk = 18 ∧ stOk (stR capT fp) fp T.length = true then ((stepsR T.length ((G.drop (i + 1)).map (·.1)) (S.set (stR capT fp).1.1 (stR capT fp).1.2)).1, fn + (stepsR T.length ((G.drop (i + 1)).map (·.1)) (S.set (stR capT fp).1.1 (stR capT fp).1.2)).2) else (S, 0) from rfl)
     have HOL := Lib.hid (show stOk (stR capT fp) fp T.length = true → (stR capT fp).1.1 < T.length from fun h => by
      unfold stOk at h
      simp only [Bool.and_eq_true, decide_eq_true_eq] at h
      exact h.1.2)
     generalize stOk (stR capT fp) fp T.length = ok at *
     generalize stR capT fp = rr at *
     obtain ⟨⟨k, ⟨s, t, d, c⟩⟩, σ⟩ := rr
     simp only at HRS HSC HOL
     unfold stA at HRS
     go_wp2_with fail
     refine HRS.out.mono ?_
     rintro e v2 ⟨rfl, hk⟩
     have HD2 := Lib.hid (HD1.out.kept hk)
     have HF2 := Lib.hid (HFy.out.keeps hk)
     clear hk HRS q3 j4 HD1 HFy HKy HGP
     go_upto_region 17 with fail
     obtain ⟨qx, hqx⟩ : ∃ q, q = v2.heap.size := ⟨_, rfl⟩
     have HX3 := Lib.hid (show Blk (v2.alloc (.cells #[.int .i64 s, .int .i64 t, .int .i64 d, .int .i64 c] 57)) qx 57 #[.int .i64 s, .int .i64 t, .int .i64 d, .int .i64 c] from Blk.new _ _ _ hqx)
     have HD3 := Lib.hid (HD2.out.kept ((Keeps.refl v2).alloc (.cells #[.int .i64 s, .int .i64 t, .int .i64 d, .int .i64 c] 57)))
     have HF3 := Lib.hid (HF2.out.alloc (.cells #[.int .i64 s, .int .i64 t, .int .i64 d, .int .i64 c] 57))
     rw [← hqx]
     generalize v2.alloc (.cells #[.int .i64 s, .int .i64 t, .int .i64 d, .int .i64 c] 57) = v3 at *
     clear hqx HD2 HF2
     have q2 : v3.cell? ⟨q, 2, none⟩ = some (.int .i64 fk) := by rw [HF3.out.cell]; rfl
     by_cases hgood : fk = 18 ∧ ok = true
     ·have HSC2 := Lib.hid (HSC.out.trans (if_pos hgood))
      obtain ⟨rfl, rfl⟩ := hgood
      have hkT := HOL.out rfl
      have hki : (k : Int) < (T.length : Int) := by omega
      obtain ⟨sb, cur, rfl, hBS, hcz⟩ : ∃ sb cur, ps = some ⟨sb, 0, none⟩ ∧ Blk v3 sb 57 cur ∧ T.length * 4 ≤ cur.size := by
       rcases HD3.out.sts.2 with ⟨h, h0⟩ | ⟨g, cap, cur, h, hb, hgg, h1, h2, h3, h4⟩
       ·rw [HSS.out] at h0; omega
       ·simp only [Value.slice.injEq] at h
        obtain ⟨rfl, -, rfl⟩ := h
        refine ⟨g, cur, rfl, hgg, ?_⟩
        rw [HSS.out] at h1
        rw [h3]
        exact Nat.mul_le_mul_right 4 h1
      have r0 : v3.cell? ⟨sb, k * 4, none⟩ = some (cur[k * 4]'(by omega)) := by rw [hBS.cell]; exact Array.getElem?_eq_getElem _
      have r1 : v3.cell? ⟨sb, k * 4 + 1, none⟩ = some (cur[k * 4 + 1]'(by omega)) := by rw [hBS.cell]; exact Array.getElem?_eq_getElem _
      have r2 : v3.cell? ⟨sb, k * 4 + 2, none⟩ = some (cur[k * 4 + 2]'(by omega)) := by rw [hBS.cell]; exact Array.getElem?_eq_getElem _
      have r3 : v3.cell? ⟨sb, k * 4 + 3, none⟩ = some (cur[k * 4 + 3]'(by omega)) := by rw [hBS.cell]; exact Array.getElem?_eq_getElem _
      have g0 : v3.frozen? ⟨sb, k * 4, none⟩ = false := hBS.frozen _
      have g1 : v3.frozen? ⟨sb, k * 4 + 1, none⟩ = false := hBS.frozen _
      have g2 : v3.frozen? ⟨sb, k * 4 + 2, none⟩ = false := hBS.frozen _
      have g3 : v3.frozen? ⟨sb, k * 4 + 3, none⟩ = false := hBS.frozen _
      have hqs : q ≠ sb := fun e => by
       have h1 := HF3.out
       unfold Blk at h1 hBS
       rw [e, hBS] at h1
       simp at h1
      have j5 : v3.cell? ⟨J, 5, none⟩ = some (.slice (some ⟨sb, 0, none⟩) T.length cs) := by rw [HD3.out.job.cell]; rfl
      have HD4 := Lib.hid (RdSt.setS1 HD3.out HSS.out.symm k (by rw [HSS.out]; exact hkT) s t d c)
      have HF4 := Lib.hid ((((HF3.out.far (p := ⟨sb, k * 4, none⟩) hqs (.int .i64 s)).far (p := ⟨sb, k * 4 + 1, none⟩) hqs (.int .i64 t)).far (p := ⟨sb, k * 4 + 2, none⟩) hqs (.int .i64 d)).far (p := ⟨sb, k * 4 + 3, none⟩) hqs (.int .i64 c))
      have e18 : ((18 : Int) != 18) = false := rfl
      go_upto_region 19 with (refine wpList_ld rfl stM HX3.out _ rfl rfl ?_)
      generalize ((((v3.setCell ⟨sb, k * 4, none⟩ (.int .i64 s)).setCell ⟨sb, k * 4 + 1, none⟩ (.int .i64 t)).setCell ⟨sb, k * 4 + 2, none⟩ (.int .i64 d)).setCell ⟨sb, k * 4 + 3, none⟩ (.int .i64 c)) = v4 at *
      have q1 : v4.cell? ⟨q, 1, none⟩ = some (.int .i64 fn) := by rw [HF4.out.cell]; rfl
      have HSL2 := Lib.hid (show (S.set k ⟨s, t, d, c⟩).length = T.length from by rw [List.length_set]; exact HSS.out)
      have HST2 := Lib.hid (show stepsR T.length (G.map (·.1)) S0 = ((stepsR T.length ((G.drop (i + 1)).map (·.1)) (S.set k ⟨s, t, d, c⟩)).1, (u + fn - (n0 + n1)) + (stepsR T.length ((G.drop (i + 1)).map (·.1)) (S.set k ⟨s, t, d, c⟩)).2) from by
       rw [HST.out, HSC2.out]
       simp only [Prod.mk.injEq, true_and]
       omega)
      clear r0 r1 r2 r3 g0 g1 g2 g3 hBS hcz hqs j5 q2 HD3 HF3 HX3 HSC HSC2 HST HSS HOL
      go_wp2_with fail
      go_roundw
      case rel => exact ⟨i + 1, u + fn, S.set k ⟨s, t, d, c⟩, by simp, by simp, by omega, HD4, HSL2, HST2, HU2⟩
      case measure =>
       simp only [intOf]
       omega
     ·have HSC2 := Lib.hid (HSC.out.trans (if_neg hgood))
      have HRF := Lib.hid (show R = (⟨id, arr, fl, fd, T, S, y1⟩, u, 0) from by
       rw [HR3.out, HST.out, HSC2.out]
       simp only [Prod.mk.injEq, true_and, and_true]
       omega)
      have HD := HD3
      by_cases h18 : fk = 18
      ·have e18 : (fk != 18) = false := by simp [h18]
       have hok : ok = false := by
        cases ok with
        |false => rfl
        |true => exact absurd ⟨h18, rfl⟩ hgood
       clear h18 hgood
       subst hok
       go_wp2_with (first | refine wpList_ld rfl jobM HD.out.job _ rfl rfl ?_ | (refine wpList_st rfl jobM HD.out.job rfl (by simp [Value.oneCell']) _ _ rfl rfl rfl rfl ?_; intro yF hBF hMF; have FF := Lib.hid (show yF.cell? ⟨J, 0, none⟩ = some (.int .i64 id) ∧ yF.cell? ⟨J, 1, none⟩ = some (.int .i64 arr) ∧ yF.cell? ⟨J, 2, none⟩ = some (.string (bstr fl)) ∧ yF.cell? ⟨J, 3, none⟩ = some (.string (bstr fd)) ∧ yF.cell? ⟨J, 4, none⟩ = some (.slice pt T.length ct) ∧ yF.cell? ⟨J, 5, none⟩ = some (.slice ps T.length cs) ∧ yF.cell? ⟨J, 6, none⟩ = some (.slice pz1 y1.length cz1) from ⟨by rw [hBF.cell]; rfl, by rw [hBF.cell]; rfl, by rw [hBF.cell]; rfl, by rw [hBF.cell]; rfl, by rw [hBF.cell]; rfl, by rw [hBF.cell]; rfl, by rw [hBF.cell]; rfl⟩); have HKF := Lib.hid (hMF.keeps HD.out.keeps (fun x hx => by rw [hx]; exact HD.out.jw)); have HTF := Lib.hid (ownsRow_mods HD.out.tos hMF (fun x hx e => ownsRow_ne HD.out.tos HD.out.job (by decide) (by rw [hx, e]))); have HSF := Lib.hid (ownsRow_mods HD.out.sts hMF (fun x hx e => ownsRow_ne HD.out.sts HD.out.job (by decide) (by rw [hx, e]))); have HBF := Lib.hid (HD.out.bd.modsT hMF (fun x hx => by subst hx; exact blk_ty HD.out.job (by decide))); clear hBF hMF))
       exact bodyPost_ret (v := .tuple #[.agg (jobA ⟨id, arr, fl, fd, T, S, y1⟩ (.slice pt T.length ct) (.slice ps T.length cs) (.slice pz1 y1.length cz1)), .int .i64 (u), .int .i64 0]) (by simp [results, Tryz.results88, go_sem, FF.out.1, FF.out.2.1, FF.out.2.2.1, FF.out.2.2.2.1, FF.out.2.2.2.2.1, FF.out.2.2.2.2.2.1, FF.out.2.2.2.2.2.2]) rfl ⟨_, _, _, by rw [HRF.out], by rw [HRF.out]; exact ⟨HTF.out, HSF.out, HBF.out.lower (by rw [HJJ.out]; exact HBS.out)⟩, HKF.out⟩
      ·have e18 : (fk != 18) = true := by simp [h18]
       clear h18 hgood
       go_wp2_with (first | refine wpList_ld rfl jobM HD.out.job _ rfl rfl ?_ | (refine wpList_st rfl jobM HD.out.job rfl (by simp [Value.oneCell']) _ _ rfl rfl rfl rfl ?_; intro yF hBF hMF; have FF := Lib.hid (show yF.cell? ⟨J, 0, none⟩ = some (.int .i64 id) ∧ yF.cell? ⟨J, 1, none⟩ = some (.int .i64 arr) ∧ yF.cell? ⟨J, 2, none⟩ = some (.string (bstr fl)) ∧ yF.cell? ⟨J, 3, none⟩ = some (.string (bstr fd)) ∧ yF.cell? ⟨J, 4, none⟩ = some (.slice pt T.length ct) ∧ yF.cell? ⟨J, 5, none⟩ = some (.slice ps T.length cs) ∧ yF.cell? ⟨J, 6, none⟩ = some (.slice pz1 y1.length cz1) from ⟨by rw [hBF.cell]; rfl, by rw [hBF.cell]; rfl, by rw [hBF.cell]; rfl, by rw [hBF.cell]; rfl, by rw [hBF.cell]; rfl, by rw [hBF.cell]; rfl, by rw [hBF.cell]; rfl⟩); have HKF := Lib.hid (hMF.keeps HD.out.keeps (fun x hx => by rw [hx]; exact HD.out.jw)); have HTF := Lib.hid (ownsRow_mods HD.out.tos hMF (fun x hx e => ownsRow_ne HD.out.tos HD.out.job (by decide) (by rw [hx, e]))); have HSF := Lib.hid (ownsRow_mods HD.out.sts hMF (fun x hx e => ownsRow_ne HD.out.sts HD.out.job (by decide) (by rw [hx, e]))); have HBF := Lib.hid (HD.out.bd.modsT hMF (fun x hx => by subst hx; exact blk_ty HD.out.job (by decide))); clear hBF hMF))
       exact bodyPost_ret (v := .tuple #[.agg (jobA ⟨id, arr, fl, fd, T, S, y1⟩ (.slice pt T.length ct) (.slice ps T.length cs) (.slice pz1 y1.length cz1)), .int .i64 (u), .int .i64 0]) (by simp [results, Tryz.results88, go_sem, FF.out.1, FF.out.2.1, FF.out.2.2.1, FF.out.2.2.2.1, FF.out.2.2.2.2.1, FF.out.2.2.2.2.2.1, FF.out.2.2.2.2.2.2]) rfl ⟨_, _, _, by rw [HRF.out], by rw [HRF.out]; exact ⟨HTF.out, HSF.out, HBF.out.lower (by rw [HJJ.out]; exact HBS.out)⟩, HKF.out⟩
    ·have hie : i = G.length := by omega
     have HRF := Lib.hid (show R = (⟨id, arr, fl, fd, T, S, y1⟩, u, 0) from by
      rw [HR3.out, HST.out, List.drop_eq_nil_of_le (by omega)]
      simp only [List.map_nil, stepsR, Prod.mk.injEq, true_and, and_true]
      omega)
     clear hie
     go_wp2_with (first | refine wpList_ld rfl jobM HD.out.job _ rfl rfl ?_ | (refine wpList_st rfl jobM HD.out.job rfl (by simp [Value.oneCell']) _ _ rfl rfl rfl rfl ?_; intro yF hBF hMF; have FF := Lib.hid (show yF.cell? ⟨J, 0, none⟩ = some (.int .i64 id) ∧ yF.cell? ⟨J, 1, none⟩ = some (.int .i64 arr) ∧ yF.cell? ⟨J, 2, none⟩ = some (.string (bstr fl)) ∧ yF.cell? ⟨J, 3, none⟩ = some (.string (bstr fd)) ∧ yF.cell? ⟨J, 4, none⟩ = some (.slice pt T.length ct) ∧ yF.cell? ⟨J, 5, none⟩ = some (.slice ps T.length cs) ∧ yF.cell? ⟨J, 6, none⟩ = some (.slice pz1 y1.length cz1) from ⟨by rw [hBF.cell]; rfl, by rw [hBF.cell]; rfl, by rw [hBF.cell]; rfl, by rw [hBF.cell]; rfl, by rw [hBF.cell]; rfl, by rw [hBF.cell]; rfl, by rw [hBF.cell]; rfl⟩); have HKF := Lib.hid (hMF.keeps HD.out.keeps (fun x hx => by rw [hx]; exact HD.out.jw)); have HTF := Lib.hid (ownsRow_mods HD.out.tos hMF (fun x hx e => ownsRow_ne HD.out.tos HD.out.job (by decide) (by rw [hx, e]))); have HSF := Lib.hid (ownsRow_mods HD.out.sts hMF (fun x hx e => ownsRow_ne HD.out.sts HD.out.job (by decide) (by rw [hx, e]))); have HBF := Lib.hid (HD.out.bd.modsT hMF (fun x hx => by subst hx; exact blk_ty HD.out.job (by decide))); clear hBF hMF))
     exact bodyPost_ret (v := .tuple #[.agg (jobA ⟨id, arr, fl, fd, T, S, y1⟩ (.slice pt T.length ct) (.slice ps T.length cs) (.slice pz1 y1.length cz1)), .int .i64 (u), .int .i64 0]) (by simp [results, Tryz.results88, go_sem, FF.out.1, FF.out.2.1, FF.out.2.2.1, FF.out.2.2.2.1, FF.out.2.2.2.2.1, FF.out.2.2.2.2.2.1, FF.out.2.2.2.2.2.2]) rfl ⟨_, _, _, by rw [HRF.out], by rw [HRF.out]; exact ⟨HTF.out, HSF.out, HBF.out.lower (by rw [HJJ.out]; exact HBS.out)⟩, HKF.out⟩
end Env
end Go.Proofs.YtcleakjjefmmbaaGreat
