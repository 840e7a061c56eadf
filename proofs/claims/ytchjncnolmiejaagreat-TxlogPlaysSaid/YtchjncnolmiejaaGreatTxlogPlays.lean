/- TxlogPlays: its walk. -/
import Derived.Test.YtchjncnolmiejaaGreatK51
import Derived.Deep.CutBlock
namespace Go.Proofs.YtchjncnolmiejaaGreat
open Go.RowKit
namespace Txl
open Vd Rf Rs
open Sf (sMake sAppend sSwap rMake rAppend rSwap)
open Go.Maps
set_option maxRecDepth 100000 in
set_option maxHeartbeats 8000000 in
theorem txlogPlays_walk (W : World) (v0 : Value) (b : List UInt8) (there : Bool) (cap : Int) (v3 : Value) (l : List ActT) (r0 : Row W v0 (b.map u8v)) (_w2 : (Lit.int .i64 cap).wf = true) (r3 : RowS W 5 v3 l.length (l.flatMap tpC)) (w3 : ∀ x ∈ l, TpOk W x) :
  Calls Tryz.prog 3 #[v0, .bool there, .int .i64 cap, v3] W fun e w' => e = .returned (.bool true) ∧ Keeps W w' := by
 obtain ⟨p0, c0, rfl, -, -⟩ := r0.formB
 obtain ⟨p3, c3, rfl, -, -⟩ := r3.form
 have HB := Lib.hid r0
 have HR := Lib.hid r3
 have HOK := Lib.hid w3
 have HAW := Lib.hid (awake17_any W)
 clear r0 r3 w3 _w2
 go_enter Tryz.func3, Tryz.ntmps3
 go_wp2_with fail
 refine HAW.out.mono ?_
 rintro e w1 ⟨rfl, hk1⟩
 have HK1 := Lib.hid hk1
 clear hk1 HAW
 have HFW := Lib.hid (few17_any _ l w1 (HR.out.keeps HK1.out) (fun x hx => (HOK.out x hx).keeps HK1.out))
 by_cases h1000 : 1000 < b.length
 ·have h1 : (1000 : Int) < (b.length : Int) := by omega
  go_wp2_with fail
  go_ret
  exact ⟨rfl, HK1.out⟩
 have h1 : decide ((1000 : Int) < (b.length : Int)) = false := by simp; omega
 go_wp2_with fail
 refine HFW.out.mono ?_
 rintro e w2 ⟨fb, rfl, hfb, rfl⟩
 have HFB := Lib.hid hfb
 clear hfb HFW
 cases fb with
 | false =>
  go_wp2_with fail
  go_ret
  exact ⟨rfl, HK1.out⟩
 | true =>
 have HL40 := Lib.hid (HFB.out rfl)
 clear HFB h1
 go_upto_if 38 with fail
 go_cut [9] (fun fv wx => ∃ pv nv cv, fv = .slice pv nv cv ∧ Hid (∃ fs : List FileX, fs.length ≤ 1 ∧ RowS wx 2 (.slice pv nv cv) fs.length (fs.flatMap fileC) ∧ (∀ f ∈ fs, FileOk wx f) ∧ Keeps W wx))
 case first =>
  cases there with
  | false =>
   go_wp2_with fail
   go_meet
   exact ⟨_, _, _, rfl, Lib.hid ⟨[], Nat.zero_le _, rowS_none _, fun f hf => absurd hf (List.not_mem_nil), HK1.out⟩⟩
  | true =>
   go_wp2_with fail
   go_meet
   exact ⟨_, _, _, rfl, Lib.hid ⟨[([120], b, .slice p0 b.length c0)], Nat.le_refl _, rowS_one _ (Blk.new _ _ _ rfl), fun f hf => by
    simp at hf
    subst hf
    exact ⟨HB.out.keeps (HK1.out.alloc _), by show 1 ≤ 9000000000000000000; omega⟩, HK1.out.alloc _⟩⟩
 case rest =>
 obtain ⟨pv, nv, cv, rfl, HF⟩ := hcut
 obtain ⟨w2, rfl⟩ : ∃ z : World, z = wc := ⟨_, rfl⟩
 obtain ⟨fs, hfs1, hrow, hok, hkw⟩ := HF.out
 obtain rfl : nv = fs.length := by
  obtain ⟨_, _, hv, -, -⟩ := hrow.form
  simp only [Value.slice.injEq] at hv
  exact hv.2.1
 have HNW := Lib.hid (new_at (Keeps.refl w2) _ fs hrow hok cap)
 have HNR := Lib.hid (fun (w3 : World) (k : Keeps w2 w3) => rnew_any w3 _ fs (hrow.keeps k) (fun f hf => (hok f hf).keeps k) cap)
 have HAL := Lib.hid (new_alike fs cap)
 have HFEW := Lib.hid (fun d (h : newD fs cap = some d) => new_few hfs1 h)
 have HKW := Lib.hid hkw
 have HF1 := Lib.hid hfs1
 generalize fs.length = fl at *
 unfold NewAt at HNW
 unfold NewDR at HNR
 rcases HAL.out with ⟨hd0, hr0⟩ | ⟨d0, r0, hd0, hr0, hdr⟩
 ·rw [hd0] at HNW
  rw [hr0] at HNR
  clear hrow hok hkw HF hfs1 HAL hd0 hr0
  go_wp2_with fail
  refine HNW.out.mono ?_
  rintro e w3 ⟨hk3, rfl⟩
  have HK3 := Lib.hid hk3
  clear hk3
  go_wp2_with fail
  refine (HNR.out w3 HK3.out).mono ?_
  rintro e w4 ⟨hk4, rfl⟩
  have HK4 := Lib.hid ((HKW.out.trans HK3.out).trans hk4)
  clear hk4
  go_wp2_with fail
  go_ret
  exact ⟨rfl, HK4.out⟩
 ·have HFW := Lib.hid (HFEW.out d0 hd0)
  rw [hd0] at HNW
  rw [hr0] at HNR
  have HD0 := Lib.hid hdr
  clear hrow hok hkw HF hfs1 HAL hd0 hr0 hdr HFEW
  go_wp2_with fail
  refine HNW.out.mono ?_
  rintro e w3 ⟨hk3, g, rfl, hd⟩
  have HK3 := Lib.hid hk3
  have HDK := Lib.hid hd
  clear hk3 hd
  go_wp2_with fail
  refine (HNR.out w3 HK3.out).mono ?_
  rintro e w4 ⟨hk4, m, rfl, hr⟩
  have HT4 := Lib.hid (two_born (HDK.out.wide (fun y hy => ⟨Nat.le_trans HKW.out.size hy.1, hy.2⟩)) (HKW.out.trans HK3.out) HFW.out.1 hk4 (hr.more HF1.out) (Nat.le_refl 1))
  have HN0 := Lib.hid HFW.out.2
  clear hk4 hr HNR HNW HDK HFW HK1
  go_upto_region 13 with fail
  generalize hW : World.alloc w4 _ = w5
  have hk5 : Keeps w4 w5 := by rw [← hW]; exact (Keeps.refl _).alloc _
  have hm5 : Blk w5 w4.heap.size 35 (modelA m 0 false) := by rw [← hW]; exact Blk.new _ _ _ rfl
  have HT5 := Lib.hid (HT4.out.aside hk5 (Nat.le_refl _) hm5.lt)
  have HM5 := Lib.hid hm5
  have hmW := HT4.out.kp.size
  clear hW hk5 hm5 HT4
  obtain ⟨mb, hmb⟩ : ∃ z, z = w4.heap.size := ⟨_, rfl⟩
  rw [← hmb] at HT5 HM5 hmW ⊢
  have HMW := Lib.hid hmW
  clear hmb hmW
  have HOP := Lib.hid (open_two HT5.out (by omega) [120] (by decide))
  have HMO := Lib.hid (fun (L2 : List Nat) (w6 : World) (d2 : Dsk) (k2 : Nat) (h2 : TwoAt L2 W w6 g d2 m r0 k2) (hk : k2 ≤ 89800) (hl : mb ∈ L2) (hB : Blk w6 mb 35 (modelA m 0 false)) => mopen_two HD0.out h2 hk hl HMW.out hB)
  have HFT := Lib.hid (open_fit HT5.out HD0.out [120])
  have HGR := Lib.hid (grows_open d0 [120])
  have HOA := Lib.hid (open_al [120] (by omega) HD0.out)
  generalize openD d0 [120] = qd at *
  generalize openR r0 [120] = qr at *
  obtain ⟨d1, e1, s⟩ := qd
  obtain ⟨r1, e2, s2⟩ := qr
  obtain ⟨hes, hd1⟩ := HOA.out
  simp only [Prod.mk.injEq] at hes
  obtain ⟨rfl, rfl⟩ := hes
  have HD1 := Lib.hid hd1
  simp only at HFT HGR HD1
  clear hd1 HOA HD0
  by_cases he : e1 = 0
  ·subst he
   go_wp2_with fail
   refine HOP.out.mono ?_
   intro e w6 ho
   obtain ⟨lb, pt, ct, X, rfl, hlb, ht6, hm6, hB6, hX6, hXe⟩ := open_yes ho
   have HT6 := Lib.hid ht6
   have HB6 := Lib.hid hB6
   have HX6 := Lib.hid hX6
   have HXE := Lib.hid hXe
   have HM6 := Lib.hid (HM5.out.mods hm6 (fun hy => hy.2 (List.mem_cons_self ..)))
   have HLW := Lib.hid (Nat.le_trans HT5.out.kp.size hlb)
   have HNE := Lib.hid (show lb ≠ mb from fun e => by have := HM5.out.lt; omega)
   clear ho hlb ht6 hm6 hB6 hX6 hXe HOP HT5
   have HMO2 := Lib.hid (HMO.out _ _ _ _ HT6.out (by omega) (List.mem_cons_of_mem _ (List.mem_cons_self ..)) HM6.out)
   clear HMO HM5
   go_wp2_with fail
   refine HMO2.out.mono ?_
   intro e w7 ho
   obtain ⟨pu, cu, Y, rfl, ht7, hm7, hmm, hY, hYe, hst⟩ := mopen_yes ho
   have HP7 := Lib.hid (show Pair [lb, mb] W w7 g d1 m r1 300 100 lb mb (rep s).1.length (decide ((rep s).2 = (s.length : Int))) from { two := ht7.more (by omega), dr := HD1.out.more (by omega), log := HB6.out.mods hmm (fun hy => hy.2.elim (fun hh => hh (List.mem_cons_self ..)) HNE.out), mod := hm7, l1 := List.mem_cons_self .., l2 := List.mem_cons_of_mem _ (List.mem_cons_self ..), w1 := HLW.out, w2 := HMW.out })
   have hxl : X.length = (rep s).1.length := by rw [← HXE.out, List.length_map]
   have HSM := Lib.hid (same17_any _ _ X Y w7 (txs_stay HX6.out HXE.out HM6.out hst) hY (HXE.out.trans hYe.symm) (by have := rep_len s; have := HFT.out; omega))
   have HN1 := Lib.hid (show (rep s).1.length ≤ 1000000000 from Nat.le_trans (rep_len s) HFT.out)
   generalize (rep s).1.length = n0 at HP7 HN1
   generalize decide ((rep s).2 = (s.length : Int)) = wh0 at HP7
   clear ho ht7 hm7 hmm hY hYe hst hxl HMO2 HT6 HB6 HX6 HXE HM6
   go_wp2_with fail
   refine HSM.out.mono ?_
   rintro e w8 ⟨rfl, hk8⟩
   have HP8 := Lib.hid (HP7.out.keeps hk8)
   clear hk8 HSM HP7
   go_wp2_with fail
   go_loopw [13, 18] (fun gv ix wr => ∃ (j : Nat) (L : List Nat) (lb n : Nat) (wh : Bool) (d : Dsk) (r : RDsk), gv = .pointer (some ⟨lb, 0, none⟩) ∧ ix = .int .i64 (j : Int) ∧ j ≤ l.length ∧ Hid (Pair L W wr g d m r (300 * (j + 1)) (100 * (j + 1)) lb mb n wh) ∧ Hid (d.nodes.length ≤ j + 2) ∧ Hid (n ≤ 1000000000 + j)) (fun _ ix _ => l.length - (RowKit.intOf ix).toNat)
   case atStart => exact ⟨0, _, lb, n0, wh0, d1, r1, rfl, rfl, Nat.zero_le _, HP8, Lib.hid (by have := HGR.out; have := HN0.out; omega), Lib.hid (by have := HN1.out; omega)⟩
   case round =>
    clear HP8
    obtain ⟨j, L, lb, n, wh, d, r, rfl, rfl, hj, HP, HN, HNN⟩ := hrel
    by_cases hlt : j < l.length
    ·have hlt' : (j : Int) < (l.length : Int) := Int.ofNat_lt.2 hlt
     obtain ⟨bq, off, cap', hv, -, -, HC⟩ := HR.out.at_ (Nat.lt_of_le_of_lt (Nat.zero_le _) hlt)
     simp only [Value.slice.injEq] at hv
     obtain ⟨rfl, -, rfl⟩ := hv
     have HKW := Lib.hid HP.out.two.kp
     have HRG := Lib.hid (show wr.rangeAt bq (off + j * 5) (tpC l[j]) from fun i x hx => by
      have hi : i < 5 := by
       have := (List.getElem?_eq_some_iff.1 hx).1
       simpa [tpC] using this
      have h1 := HC.out (j * 5 + i) x (by rw [tp_at hlt hi]; exact hx)
      rw [Nat.add_assoc, HKW.out.cell (p := ⟨bq, off + (j * 5 + i), none⟩) (lt_of_cell h1)]
      exact h1)
     have hok := HOK.out _ (List.getElem_mem hlt)
     generalize l[j] = x at *
     obtain ⟨xk, xiv, its, xn, xc, xkv, ks⟩ := x
     have HIT := Lib.hid hok.its
     have HPY := Lib.hid hok.pay
     have HXN := Lib.hid hok.n
     have HKS := Lib.hid hok.row
     obtain ⟨pi, ci, hiv, -, -⟩ := hok.its.form
     obtain ⟨pk, ck, hkv, -, -⟩ := hok.row.form
     simp only at hiv hkv HIT HPY HXN HKS HRG
     rw [List.length_map] at hiv hkv
     subst hiv hkv
     have HNI := Lib.hid (Sa.wf_in HXN.out)
     have HRG := Lib.hid (show wr.rangeAt bq (off + j * 5) [.int .i64 xk, .slice pi its.length ci, .int .i64 xn, .int .i64 xc, .slice pk ks.length ck] from HRG.out)
     clear HC hok
     go_upto_region 21 with (refine wpList_ldR rfl actM17 HRG.out _ rfl rfl ?_)
     generalize hW : World.alloc wr _ = wa
     have hka : Keeps wr wa := by rw [← hW]; exact (Keeps.refl _).alloc _
     have hqa : Blk wa wr.heap.size 47 #[.int .i64 xk, .slice pi its.length ci, .int .i64 xn, .int .i64 xc, .slice pk ks.length ck] := by rw [← hW]; exact Blk.new _ _ _ rfl
     have HPa := Lib.hid (HP.out.aside hka (Nat.le_refl _) hqa.lt)
     have HQ := Lib.hid hqa
     clear hW hka hqa HRG HP
     obtain ⟨q, hq⟩ : ∃ q, q = wr.heap.size := ⟨_, rfl⟩
     rw [← hq] at HPa HQ ⊢
     clear hq
     have HJ := Lib.hid (Nat.lt_of_lt_of_le hlt HL40.out : j < 40)
     have k0 : wa.cell? ⟨q, 0, none⟩ = some (.int .i64 xk) := by rw [HQ.out.cell]; rfl
     go_upto_block 2 with fail
     clear k0
     refine switch_any W wa g m mb lb q n j wh d r L its xk xn xc pi pk ci ck ks HPa HQ HIT HPY HXN HKS HN HNN HJ _ _ _ _ _ _ _ _ _ _ _ _ _ _ _ _ _ _ _ _ _ _ _ _ _ _ _ _ _ _ _ _ _ _ _ _ _ _ _ _ _ _ _ _ _ _ _ _ _ _ _ _ _ _ _ _ _ _ _ _ _ _ _ _ _ _ _ _ _ _ _ _ _ _ _ _ _ _ _ _ _ _ _ _ _ _ _ _ _ _ _ _ _ _ _ _ _ _ _ _ _ _ _ _ _ _ _ _ _ _ _ _ _ _ _ _ _ _ _ _ _ _ _ _ _ _ _ _ _ _ _ _ _ _ _ _ _ _ _ _ _ _ _ _ _ _ _ _ _ _ _ _ _ _ _ _ _ _ _ _ _ _ _ _ _ _ _ _ _ _ _ _ _ _ _ _ _ _ _ _ _ _ _ _ _ _ _ _ _ _ _ _ _ _ _ _ _ _ _ _ _ _ _ _ _ _ _ _ _ _ _ _ _ _ _ _ _ _ _ _ _ _ _ _ _ _ _ _ _ _ _ _ _ _ _ _ _ _ _ _ _ _ _ _ _ _ _ _ _ _ _ _ _ _ _ _ _ _ _ _ _ _ _ _ _ _ _ _ _ (by dsimp only [at_, Tryz.f3, Option.getD]) _ _ (Lib.hid ?_)
     intro v13 v20 v21 v22 v23 v24 v25 v26 v27 v105 v106 v107 v108 v109 v110 v111 v112 v113 v114 v115 v116 v117 v118 v119 v120 v121 v122 v123 v124 v125 v126 v127 v128 v129 v130 v131 v132 v133 v134 v135 v136 v137 v138 v139 v140 v141 v142 v143 v144 v145 v146 v147 v148 v149 v150 v151 v152 v153 v154 v155 v156 v157 v158 v159 v160 v161 v162 v163 v164 v165 v166 v167 v168 v169 v170 v171 v172 v173 v174 v175 v176 v177 v178 v179 v180 v181 v182 v183 v184 v185 v186 v187 v188 v189 v190 v191 v192 v193 v194 v195 v196 v197 v198 v199 v200 v201 v202 v203 v204 v205 v206 v207 v208 v209 v210 v211 v212 v213 v214 v215 v216 v217 v218 v219 v220 v221 v222 v223 v224 v225 v226 v227 v228 v229 v230 v231 v232 v233 v234 v235 v236 v237 v238 v239 v240 v241 v242 v243 v244 v245 v246 v247 v248 v249 v250 v251 v252 v253 v254 v255 v256 v257 v258 v259 v260 v261 v262 v263 v264 v265 v266 v267 v268 v269 v270 v271 v272 v273 wc hcut
     obtain ⟨L2, lb2, n2, wh2, d2, r2, rfl, HP2, HN2, HNN2⟩ := hcut
     obtain ⟨wc, rfl⟩ : ∃ z : World, z = wc := ⟨_, rfl⟩
     clear HPa HQ HIT HPY HXN HKS HNI HN HNN HKW
     have c1 := HP2.out.mn
     have c2 := HP2.out.mw
     have c6 := HP2.out.calls
     have e1 : ((n2 : Int) != (n2 : Int)) = false := by simp
     have e2 : (wh2 != wh2) = false := by cases wh2 <;> rfl
     have e3 : (d2.count != d2.count) = false := by simp
     have HT := HP2
     go_upto_region 54 with fail
     refine wp_region_noPanic ?_
     refine wp_region_held_drew (S := fun w' => Keeps (wc) w') (by kernel_rfl) ((Keeps.refl _).drew) (fun _ => ?_)
     have hHeld : Keeps (wc) (wc).drew := (Keeps.refl _).drew
     refine tq 0 249 ?_
     refine tq 2 251 ?_
     refine tq 3 252 ?_
     refine tq 4 253 ?_
     refine tq 5 254 ?_ (hy := fun w' hSw => by
      have hSw : Keeps _ w' := hSw
      have hx := keep1 hSw c1
      clear hSw
      go_simp
      try with_reducible rfl)
     refine rd1 1 (fun K hK => ?_)
     go_simp
     refine (len_k (HT.out.keeps hHeld)).mono ?_
     rintro e y1 ⟨rfl, hk⟩
     have hb : Keeps _ y1 := hHeld.trans hk
     have HT := Lib.hid ((HT.out.keeps hHeld).keeps hk)
     have c1 := keep1 (hHeld.trans hk) c1
     have c2 := keep1 (hHeld.trans hk) c2
     have c6 := keep1 (hHeld.trans hk) c6
     go_wp2_with fail
     refine bk1 hK hb ?_
     clear hK K hHeld hb hk
     intro hHeld
     refine tq 6 255 ?_
     refine tq 7 256 ?_
     refine tq 8 257 ?_
     refine tq 10 259 ?_
     refine tq 11 260 ?_
     refine tq 12 261 ?_
     refine tq 13 262 ?_ (hy := fun w' hSw => by
      have hSw : Keeps _ w' := hSw
      have hx := keep1 hSw c2
      clear hSw
      go_simp
      try with_reducible rfl)
     refine rd1 9 (fun K hK => ?_)
     go_simp
     refine (whole_k (HT.out.keeps hHeld)).mono ?_
     rintro e y2 ⟨rfl, hk⟩
     have hb : Keeps _ y2 := hHeld.trans hk
     have HT := Lib.hid ((HT.out.keeps hHeld).keeps hk)
     have c1 := keep1 (hHeld.trans hk) c1
     have c2 := keep1 (hHeld.trans hk) c2
     have c6 := keep1 (hHeld.trans hk) c6
     go_wp2_with fail
     refine bk1 hK hb ?_
     clear hK K hHeld hb hk
     intro hHeld
     refine tq 14 263 ?_
     refine tq 15 264 ?_
     refine tq 16 265 ?_
     refine tq 17 266 ?_
     refine tq 19 268 ?_
     refine tq 20 269 ?_
     refine tq 21 270 ?_
     refine tq 22 271 ?_ (hy := fun w' hSw => by
      have hSw : Keeps _ w' := hSw
      have hx := keep1 hSw c6
      clear hSw
      go_simp
      try with_reducible rfl)
     refine rd1 18 (fun K hK => ?_)
     go_simp
     refine (Sa.calls_k (HT.out.keeps hHeld).two).mono ?_
     rintro e y3 ⟨rfl, hk⟩
     have hb : Keeps _ y3 := hHeld.trans hk
     have HT := Lib.hid ((HT.out.keeps hHeld).keeps hk)
     have c1 := keep1 (hHeld.trans hk) c1
     have c2 := keep1 (hHeld.trans hk) c2
     have c6 := keep1 (hHeld.trans hk) c6
     go_wp2_with fail
     refine bk1 hK hb ?_
     clear hK K hHeld hb hk
     intro hHeld
     refine tq 23 272 ?_
     refine tq 24 273 ?_
     refine wpAnyH_done (by kernel_rfl) ?_ _
     refine NoPanic.normal ?_
     have HTF := Lib.hid (HT.out.keeps hHeld)
     clear c1 c2 c6 e1 e2 e3 hHeld HT HP2
     have hj40 := HJ.out
     go_wp2_with fail
     go_roundw
     case rel => go_light; exact ⟨j + 1, L2, lb2, n2, wh2, d2, r2, rfl, by simp, by omega, HTF, HN2, HNN2⟩
     case measure =>
      simp only [RowKit.intOf]
      omega
    ·obtain rfl : j = l.length := by omega
     have hlt' : decide ((l.length : Int) < (l.length : Int)) = false := decide_eq_false (Int.lt_irrefl _)
     go_wp2_with fail
     go_ret
     exact ⟨rfl, HP.out.two.kp⟩
  ·have HE := Lib.hid he
   have h0 : (e1 == 0) = false := by simp [he]
   have h00 : (e1 != 0) = true := by simp [he]
   have hee : (e1 != e1) = false := by simp
   clear he
   go_wp2_with fail
   refine HOP.out.mono ?_
   intro e w6 ho
   obtain ⟨rfl, ht6, hm6⟩ := open_no HE.out ho
   have HT6 := Lib.hid ht6
   have HM6 := Lib.hid (HM5.out.mods hm6 (fun hy => hy.2 (List.mem_cons_self ..)))
   clear ho ht6 hm6 HOP HT5
   have HMO2 := Lib.hid (HMO.out _ _ _ _ HT6.out (by omega) (List.mem_cons_self ..) HM6.out)
   clear HMO HM5
   go_wp2_with fail
   refine HMO2.out.mono ?_
   intro e w7 ho
   obtain ⟨rfl, ht7, -, -⟩ := mopen_no HE.out ho
   have HT7 := Lib.hid ht7
   clear ho ht7 HMO2
   have HSM := Lib.hid (same17_any (.slice none 0 0) (.slice none 0 0) [] [] w7 (TxsAt.nil _ 0).r (TxsAt.nil _ 0).r rfl (Nat.zero_le _))
   go_wp2_with fail
   refine HSM.out.mono ?_
   rintro e w8 ⟨rfl, hk8⟩
   have HK8 := Lib.hid (HT7.out.kp.trans hk8)
   clear hk8
   go_wp2_with fail
   go_ret
   exact ⟨rfl, HK8.out⟩
end Txl
end Go.Proofs.YtchjncnolmiejaaGreat
