/- Several texts in one: TpK4, TpK5, TpSwAll. -/
import Derived.Test.YtchjncnolmiejaaGreatK49
import Derived.Test.YtchjncnolmiejaaGreatK50
/- TxlogPlays' round. Written by gen_tpkinds.py. -/
namespace Go.Proofs.YtchjncnolmiejaaGreat
open Go.RowKit
namespace Txl
open Vd Rf Rs
open Sf (sMake sAppend sSwap rMake rAppend rSwap)
open Go.Maps
set_option maxRecDepth 100000 in
set_option maxHeartbeats 8000000 in
theorem kind4 (W wa : World) (g m mb lb q n j : Nat) (wh : Bool) (d : Dsk) (r : RDsk) (L : List Nat) (its : List (Value × List UInt8)) (xk xn xc : Int) (h4 : xk = 4) (pi pk : Option Addr) (ci ck : Nat) (ks : List Int) (HPa : Hid (Pair (q :: L) W wa g d m r (300 * (j + 1)) (100 * (j + 1)) lb mb n wh)) (HQ : Hid (Blk wa q 47 #[.int .i64 xk, .slice pi its.length ci, .int .i64 xn, .int .i64 xc, .slice pk ks.length ck])) (HIT : Hid (Row W (.slice pi its.length ci) (its.map (·.1)))) (HPY : Hid (∀ y ∈ its, Frm.payOk W y)) (HXN : Hid ((Lit.int .i64 xn).wf = true)) (HKS : Hid (Row W (.slice pk ks.length ck) (ks.map (Value.int .i64)))) (HN : Hid (d.nodes.length ≤ j + 2)) (HNN : Hid (n ≤ 1000000000 + j)) (HJ : Hid (j < 40)) (u0 u1 u2 u3 u4 u5 u6 u7 u8 u9 u14 u15 u16 u17 u18 u20 u21 u22 u23 u24 u25 u26 u27 u28 u29 u30 u31 u32 u33 u34 u35 u36 u37 u38 u39 u40 u41 u42 u43 u44 u45 u46 u47 u48 u49 u50 u51 u52 u53 u54 u55 u56 u57 u58 u59 u60 u61 u62 u63 u64 u65 u66 u67 u68 u69 u70 u71 u72 u73 u74 u75 u76 u77 u78 u79 u80 u81 u82 u83 u84 u85 u86 u87 u88 u89 u90 u91 u92 u93 u94 u95 u96 u97 u98 u99 u100 u101 u102 u103 u104 u105 u106 u107 u108 u109 u110 u111 u112 u113 u114 u115 u117 u118 u119 u120 u121 u122 u123 u124 u125 u126 u127 u128 u129 u130 u131 u132 u133 u134 u135 u136 u137 u138 u139 u140 u141 u142 u143 u144 u145 u146 u147 u148 u149 u150 u151 u152 u153 u154 u155 u156 u157 u158 u159 u160 u161 u162 u163 u164 u165 u166 u167 u168 u169 u170 u171 u172 u173 u174 u175 u176 u177 u178 u179 u180 u181 u182 u183 u184 u185 u186 u187 u188 u189 u190 u191 u192 u193 u194 u195 u196 u197 u198 u199 u200 u201 u202 u203 u204 u205 u206 u207 u208 u209 u210 u211 u212 u213 u214 u215 u216 u217 u218 u219 u220 u221 u222 u223 u224 u225 u226 u227 u228 u229 u230 u231 u232 u233 u234 u235 u236 u237 u238 u239 u240 u241 u242 u243 u244 u245 u246 u247 u248 u249 u250 u251 u252 u253 u254 u255 u256 u257 u258 u259 u260 u261 u262 u263 u264 u265 u266 u267 u268 u269 u270 u271 u272 u273 : Value) (sw : Code) (hsw : sw = at_ [true, true, true, true, true, true, true, true, true, true, true, true, false, true, false, false, true, false, false, true, false, true] (Tryz.f3.body.getD .skip)) (K : Act → World → Prop) (Q : Exit → Act → World → Prop) (HK : Hid (∀ (v13 v20 v21 v22 v23 v24 v25 v26 v27 v105 v106 v107 v108 v109 v110 v111 v112 v113 v114 v115 v116 v117 v118 v119 v120 v121 v122 v123 v124 v125 v126 v127 v128 v129 v130 v131 v132 v133 v134 v135 v136 v137 v138 v139 v140 v141 v142 v143 v144 v145 v146 v147 v148 v149 v150 v151 v152 v153 v154 v155 v156 v157 v158 v159 v160 v161 v162 v163 v164 v165 v166 v167 v168 v169 v170 v171 v172 v173 v174 v175 v176 v177 v178 v179 v180 v181 v182 v183 v184 v185 v186 v187 v188 v189 v190 v191 v192 v193 v194 v195 v196 v197 v198 v199 v200 v201 v202 v203 v204 v205 v206 v207 v208 v209 v210 v211 v212 v213 v214 v215 v216 v217 v218 v219 v220 v221 v222 v223 v224 v225 v226 v227 v228 v229 v230 v231 v232 v233 v234 v235 v236 v237 v238 v239 v240 v241 v242 v243 v244 v245 v246 v247 v248 v249 v250 v251 v252 v253 v254 v255 v256 v257 v258 v259 v260 v261 v262 v263 v264 v265 v266 v267 v268 v269 v270 v271 v272 v273 : Value) (wx : World), (∃ (L2 : List Nat) (lb2 n2 : Nat) (wh2 : Bool) (d2 : Dsk) (r2 : RDsk), v13 = .pointer (some ⟨lb2, 0, none⟩) ∧ Hid (Pair L2 W wx g d2 m r2 (300 * (j + 1 + 1)) (100 * (j + 1 + 1)) lb2 mb n2 wh2) ∧ Hid (d2.nodes.length ≤ j + 1 + 2) ∧ Hid (n2 ≤ 1000000000 + (j + 1))) → K ⟨#[u0, u1, u2, u3, u4, u5, u6, u7, u8, u9, .pointer (some ⟨g, 0, none⟩), .pointer (some ⟨m, 0, none⟩), .pointer (some ⟨mb, 0, none⟩), v13, u14, u15, u16, u17, u18, .pointer (some ⟨q, 0, none⟩), v20, v21, v22, v23, v24, v25, v26, v27, u28, u29, u30, u31, u32, u33, u34, u35, u36, u37, u38, u39, u40, u41, u42, u43, u44, u45, u46, u47, u48, u49, u50, u51, u52, u53, u54, u55, u56, u57, u58, u59, u60, u61, u62, u63, u64, u65, u66, u67, u68, u69, u70, u71, u72, u73, u74, u75, u76, u77, u78, u79, u80, u81, u82, u83, u84, u85, u86, u87, u88, u89, u90, u91, u92, u93, u94, u95, u96, u97, u98, u99, u100, u101, u102, u103, u104, v105, v106, v107, v108, v109, v110, v111, v112, v113, v114, v115, v116, v117, v118, v119, v120, v121, v122, v123, v124, v125, v126, v127, v128, v129, v130, v131, v132, v133, v134, v135, v136, v137, v138, v139, v140, v141, v142, v143, v144, v145, v146, v147, v148, v149, v150, v151, v152, v153, v154, v155, v156, v157, v158, v159, v160, v161, v162, v163, v164, v165, v166, v167, v168, v169, v170, v171, v172, v173, v174, v175, v176, v177, v178, v179, v180, v181, v182, v183, v184, v185, v186, v187, v188, v189, v190, v191, v192, v193, v194, v195, v196, v197, v198, v199, v200, v201, v202, v203, v204, v205, v206, v207, v208, v209, v210, v211, v212, v213, v214, v215, v216, v217, v218, v219, v220, v221, v222, v223, v224, v225, v226, v227, v228, v229, v230, v231, v232, v233, v234, v235, v236, v237, v238, v239, v240, v241, v242, v243, v244, v245, v246, v247, v248, v249, v250, v251, v252, v253, v254, v255, v256, v257, v258, v259, v260, v261, v262, v263, v264, v265, v266, v267, v268, v269, v270, v271, v272, v273], []⟩ wx)) : Code.wp Tryz.prog sw (Exit.then K Q) ⟨#[u0, u1, u2, u3, u4, u5, u6, u7, u8, u9, .pointer (some ⟨g, 0, none⟩), .pointer (some ⟨m, 0, none⟩), .pointer (some ⟨mb, 0, none⟩), .pointer (some ⟨lb, 0, none⟩), u14, u15, u16, u17, u18, .pointer (some ⟨q, 0, none⟩), u20, u21, u22, u23, u24, u25, u26, u27, u28, u29, u30, u31, u32, u33, u34, u35, u36, u37, u38, u39, u40, u41, u42, u43, u44, u45, u46, u47, u48, u49, u50, u51, u52, u53, u54, u55, u56, u57, u58, u59, u60, u61, u62, u63, u64, u65, u66, u67, u68, u69, u70, u71, u72, u73, u74, u75, u76, u77, u78, u79, u80, u81, u82, u83, u84, u85, u86, u87, u88, u89, u90, u91, u92, u93, u94, u95, u96, u97, u98, u99, u100, u101, u102, u103, u104, u105, u106, u107, u108, u109, u110, u111, u112, u113, u114, u115, .int .i64 xk, u117, u118, u119, u120, u121, u122, u123, u124, u125, u126, u127, u128, u129, u130, u131, u132, u133, u134, u135, u136, u137, u138, u139, u140, u141, u142, u143, u144, u145, u146, u147, u148, u149, u150, u151, u152, u153, u154, u155, u156, u157, u158, u159, u160, u161, u162, u163, u164, u165, u166, u167, u168, u169, u170, u171, u172, u173, u174, u175, u176, u177, u178, u179, u180, u181, u182, u183, u184, u185, u186, u187, u188, u189, u190, u191, u192, u193, u194, u195, u196, u197, u198, u199, u200, u201, u202, u203, u204, u205, u206, u207, u208, u209, u210, u211, u212, u213, u214, u215, u216, u217, u218, u219, u220, u221, u222, u223, u224, u225, u226, u227, u228, u229, u230, u231, u232, u233, u234, u235, u236, u237, u238, u239, u240, u241, u242, u243, u244, u245, u246, u247, u248, u249, u250, u251, u252, u253, u254, u255, u256, u257, u258, u259, u260, u261, u262, u263, u264, u265, u266, u267, u268, u269, u270, u271, u272, u273], []⟩ wa := by
 have HNI := Lib.hid (Sa.wf_in HXN.out)
 rw [hsw]
 dsimp only [at_, Tryz.f3, Option.getD]
 clear hsw
 subst h4
 obtain ⟨L3, hL3⟩ : ∃ z, z = q :: L := ⟨_, rfl⟩
 have HQL := Lib.hid (show q ∈ L3 from by rw [hL3]; exact List.mem_cons_self ..)
 rw [← hL3] at HPa
 clear hL3
 go_upto_region 43 with fail
 go_cut [205] from 188 to 204 (fun t wx => t = .bool false ∧ ∃ (d4 : Dsk) (r4 : RDsk), Hid (Pair L3 W wx g d4 m r4 (300 * (j + 1) + 100) (100 * (j + 1) + 10) lb mb n wh) ∧ Hid (d4.nodes.length ≤ d.nodes.length))

 case first =>
  have HAL := Lib.hid (boot_alike HPa.out.dr xn ks)
  have HFI := Lib.hid (fit_of HPa.out.two)
  have HB1 := Lib.hid (kb HJ.out 0 (by decide) (by decide) : 300 * (j + 1) ≤ 90000)
  have HB2 := Lib.hid (n1024 HN.out HJ.out)
  have HB3 := Lib.hid HPa.out.two.fw.n
  have HGB := Lib.hid (Sf.grows_boot d xn ks)
  have HT := Lib.hid (HPa.out.two.keeps (Keeps.refl wa).drew)
  have HMM := Lib.hid (show Mods (fun y => W.heap.size ≤ y ∧ y ∉ L3) wa wa.drew from Mods.of_keeps (Keeps.refl wa).drew)
  refine wp_region_noPanic ?_
  refine wp_region_held_drew (S := fun w' => Mods (fun y => y ≠ q) wa w') (by kernel_rfl) ((Mods.refl (fun y => y ≠ q) wa).drew) (fun _ => ?_)
  have hHeld : Mods (fun y => y ≠ q) wa (wa).drew := (Mods.refl (fun y => y ≠ q) wa).drew
  generalize World.drew wa = xs at *
  refine tq 0 188 ?_
  refine tq 1 189 ?_ (hy := fun w' hSw => by
   have hSw : Mods (fun y => y ≠ q) wa w' := hSw
   have hBq := HQ.out.mods hSw (fun e => e rfl)
   have hx0 : World.cell? w' ⟨q, 0, none⟩ = some (.int .i64 4) := by rw [hBq.cell]; rfl
   clear hSw
   go_simp
   try with_reducible rfl)
  refine tq 2 190 ?_
  refine tq 3 191 ?_
  refine tq 4 192 ?_
  refine tq 5 193 ?_
  refine tq 6 194 ?_ (hy := fun w' hSw => by
   have hSw : Mods (fun y => y ≠ q) wa w' := hSw
   have hBq := HQ.out.mods hSw (fun e => e rfl)
   have hx3 : World.cell? w' ⟨q, 2, none⟩ = some (.int .i64 xn) := by rw [hBq.cell]; rfl
   clear hSw
   go_simp
   try with_reducible rfl)
  refine tq 7 195 ?_
  refine tq 8 196 ?_ (hy := fun w' hSw => by
   have hSw : Mods (fun y => y ≠ q) wa w' := hSw
   have hBq := HQ.out.mods hSw (fun e => e rfl)
   have hx5 : World.cell? w' ⟨q, 4, none⟩ = some (.slice pk ks.length ck) := by rw [hBq.cell]; rfl
   clear hSw
   go_simp
   try with_reducible rfl)
  refine tq 10 198 ?_
  refine tq 11 199 ?_
  refine tq 12 200 ?_ (hy := fun w' hSw => by
   have hSw : Mods (fun y => y ≠ q) wa w' := hSw
   have hBq := HQ.out.mods hSw (fun e => e rfl)
   have hx3 : World.cell? w' ⟨q, 2, none⟩ = some (.int .i64 xn) := by rw [hBq.cell]; rfl
   clear hSw
   go_simp
   try with_reducible rfl)
  refine tq 13 201 ?_
  refine tq 14 202 ?_ (hy := fun w' hSw => by
   have hSw : Mods (fun y => y ≠ q) wa w' := hSw
   have hBq := HQ.out.mods hSw (fun e => e rfl)
   have hx5 : World.cell? w' ⟨q, 4, none⟩ = some (.slice pk ks.length ck) := by rw [hBq.cell]; rfl
   clear hSw
   go_simp
   try with_reducible rfl)
  refine rd1 9 (fun K hK => ?_)
  go_simp
  refine (boot_two HT.out HB1.out HPa.out.dr HB2.out xn HXN.out (Sa.stayW HT.out HKS.out)).mono ?_
  rintro e y1 ⟨rfl, h2, hm2⟩
  have HT := Lib.hid h2
  have HMM := Lib.hid (HMM.out.trans hm2 (fun y hy _ => hy))
  have hb := hHeld.trans hm2 (fun y hy _ e => hy.2 (by rw [e]; exact HQL.out))
  clear h2 hm2
  go_wp2_with fail
  refine bkm hK hb ?_
  clear hK K hHeld
  have hHeld : Mods (fun y => y ≠ q) wa y1 := hb
  clear hb
  refine rd1 15 (fun K hK => ?_)
  go_simp
  refine (rboot_two HT.out HB1.out HPa.out.dr HFI.out HB3.out xn HXN.out (Sa.stayW HT.out HKS.out)).mono ?_
  rintro e y2 ⟨rfl, h2, hm2⟩
  have HT := Lib.hid h2
  have HMM := Lib.hid (HMM.out.trans hm2 (fun y hy _ => hy))
  have hb := hHeld.trans hm2 (fun y hy _ e => hy.2 (by rw [e]; exact HQL.out))
  clear h2 hm2
  go_wp2_with fail
  refine bkm hK hb ?_
  clear hK K hHeld
  have hHeld : Mods (fun y => y ≠ q) wa y2 := hb
  clear hb
  refine tq 16 204 ?_
  refine tq 17 205 ?_
  refine wpAnyH_done (by kernel_rfl) ?_ _
  refine NoPanic.normal ?_
  have hbe : ((bootD d xn ks).2 != (bootR r xn ks).2) = false := by rw [HAL.out.1]; simp
  go_wp2_with fail
  go_meet
  go_light
  exact ⟨congrArg Value.bool hbe, _, _, Lib.hid ⟨HT.out.more (by omega), HAL.out.2.more (by omega), HPa.out.log.mods HMM.out (fun hy => hy.2 HPa.out.l1), HPa.out.mod.mods HMM.out (fun hy => hy.2 HPa.out.l2), HPa.out.l1, HPa.out.l2, HPa.out.w1, HPa.out.w2⟩, Lib.hid (by have := HGB.out; omega)⟩

 case rest =>
 obtain ⟨rfl, d4, r4, HP4, HN4⟩ := hcut
 obtain ⟨w4, rfl⟩ : ∃ z : World, z = wc := ⟨_, rfl⟩
 clear HPa
 have HOP := Lib.hid (open_two HP4.out.two (kb HJ.out 100 (by decide) (by decide)) [120] (by decide))
 have HMO := Lib.hid (fun (L2 : List Nat) (w6 : World) (d2 : Dsk) (k2 : Nat) (h2 : TwoAt L2 W w6 g d2 m r4 k2) (hk : k2 ≤ 89800) (hl : mb ∈ L2) (hB : Blk w6 mb 35 (modelA m n wh)) => mopen_two HP4.out.dr h2 hk hl HP4.out.w2 hB)
 have HFT := Lib.hid (open_fit HP4.out.two HP4.out.dr [120])
 have HGR := Lib.hid (grows_open d4 [120])
 have HOA := Lib.hid (open_al [120] (cb HJ.out 18 (by decide) (by decide)) HP4.out.dr)
 generalize openD d4 [120] = qd at *
 generalize openR r4 [120] = qr at *
 obtain ⟨d1, e1, s⟩ := qd
 obtain ⟨r1, e2, s2⟩ := qr
 obtain ⟨hes, hd1⟩ := HOA.out
 simp only [Prod.mk.injEq] at hes
 obtain ⟨rfl, rfl⟩ := hes
 have HD1 := Lib.hid hd1
 simp only at HFT HGR HD1
 clear hd1 HOA
 by_cases he : e1 = 0
 ·as_aux_lemma =>
   subst he
   go_wp2_with fail
   refine HOP.out.mono ?_
   intro e w6 ho
   obtain ⟨lb2, pt, ct, X, rfl, hlb, ht6, hm6, hB6, hX6, hXe⟩ := open_yes ho
   have HM6 := Lib.hid (HP4.out.mod.mods hm6 (fun hy => hy.2 HP4.out.l2))
   have HB6 := Lib.hid hB6
   have HX6 := Lib.hid hX6
   have HXE := Lib.hid hXe
   have HLW := Lib.hid (Nat.le_trans HP4.out.two.kp.size hlb)
   have HNE := Lib.hid (ne_of hlb HP4.out.mod.lt : lb2 ≠ mb)
   have HT6 := Lib.hid ht6
   clear ho hlb ht6 hm6 hB6 hX6 hXe HOP
   have HM6L := Lib.hid (show Blk w6 mb 35 #[.pointer (some ⟨m, 0, none⟩), .int .i64 (n : Int), .bool wh] from HM6.out)
   go_upto_region 47 with (refine wpList_ld rfl modelM HM6L.out _ rfl rfl ?_)
   generalize hW : World.alloc w6 _ = w7
   have hk7 : Keeps w6 w7 := by rw [← hW]; exact (Keeps.refl _).alloc _
   have HM7 := Lib.hid (HM6.out.keeps hk7)
   have HB7 := Lib.hid (HB6.out.keeps hk7)
   have HT7 := Lib.hid (HT6.out.keeps hk7)
   have HX7 := Lib.hid (HX6.out.keeps hk7)
   clear hW hk7
   have HMO2 := Lib.hid (HMO.out _ _ _ _ HT7.out (kb HJ.out 108 (by decide) (by decide)) (List.mem_cons_of_mem _ HP4.out.l2) HM7.out)
   clear HMO HT6 HB6 HX6 HM6
   go_wp2_with fail
   refine HMO2.out.mono ?_
   intro e w8 ho
   obtain ⟨pu, cu, Y, rfl, ht8, hm8, hmm, hY, hYe, hst⟩ := mopen_yes ho
   have HP8 := Lib.hid (show Pair (lb2 :: L3) W w8 g d1 m r1 (300 * (j + 1 + 1)) (100 * (j + 1 + 1)) lb2 mb (rep s).1.length (decide ((rep s).2 = (s.length : Int))) from { two := ht8.more (ku 138 (by decide)), dr := HD1.out.more (cup 18 (by decide)), log := HB7.out.mods hmm (fun hy => hy.2.elim (fun hh => hh (List.mem_cons_self ..)) HNE.out), mod := hm8, l1 := List.mem_cons_self .., l2 := List.mem_cons_of_mem _ HP4.out.l2, w1 := HLW.out, w2 := HP4.out.w2 })
   have hxl : X.length = (rep s).1.length := by rw [← HXE.out, List.length_map]
   have HSM := Lib.hid (same17_any _ _ X Y w8 (txs_stay HX7.out HXE.out HM7.out hst) hY (HXE.out.trans hYe.symm) (xl hxl (rep_len s) HFT.out))
   have HN1 := Lib.hid (show (rep s).1.length ≤ 1000000000 from Nat.le_trans (rep_len s) HFT.out)
   generalize (rep s).1.length = n0 at HP8 HN1
   generalize decide ((rep s).2 = (s.length : Int)) = wh0 at HP8
   clear ho ht8 hm8 hmm hY hYe hst hxl HMO2 HT7 HB7 HX7 HXE HM7 HP4
   go_wp2_with fail
   refine HSM.out.mono ?_
   rintro e w9 ⟨rfl, hk9⟩
   have HP9 := Lib.hid (HP8.out.keeps hk9)
   clear hk9 HSM HP8
   go_wp2_with fail
   refine HK.out _ _ _ _ _ _ _ _ _ _ _ _ _ _ _ _ _ _ _ _ _ _ _ _ _ _ _ _ _ _ _ _ _ _ _ _ _ _ _ _ _ _ _ _ _ _ _ _ _ _ _ _ _ _ _ _ _ _ _ _ _ _ _ _ _ _ _ _ _ _ _ _ _ _ _ _ _ _ _ _ _ _ _ _ _ _ _ _ _ _ _ _ _ _ _ _ _ _ _ _ _ _ _ _ _ _ _ _ _ _ _ _ _ _ _ _ _ _ _ _ _ _ _ _ _ _ _ _ _ _ _ _ _ _ _ _ _ _ _ _ _ _ _ _ _ _ _ _ _ _ _ _ _ _ _ _ _ _ _ _ _ _ _ _ _ _ _ _ _ _ _ _ _ _ _ _ _ _ _ ?_
   go_light
   exact ⟨_, lb2, n0, wh0, d1, r1, rfl, HP9, Lib.hid (by have := HGR.out; have := HN4.out; have := HN.out; omega), Lib.hid (by have := HN1.out; omega)⟩
 ·as_aux_lemma =>
   have HE := Lib.hid he
   have h0 : (e1 == 0) = false := by simp [he]
   have h00 : (e1 != 0) = true := by simp [he]
   have hee : (e1 != e1) = false := by simp
   clear he
   go_wp2_with fail
   refine HOP.out.mono ?_
   intro e w6 ho
   obtain ⟨rfl, ht6, hm6⟩ := open_no HE.out ho
   have HT6 := Lib.hid ht6
   have HM6 := Lib.hid (HP4.out.mod.mods hm6 (fun hy => hy.2 HP4.out.l2))
   have HB6 := Lib.hid (HP4.out.log.mods hm6 (fun hy => hy.2 HP4.out.l1))
   clear ho ht6 hm6 HOP
   have HM6L := Lib.hid (show Blk w6 mb 35 #[.pointer (some ⟨m, 0, none⟩), .int .i64 (n : Int), .bool wh] from HM6.out)
   go_upto_region 47 with (refine wpList_ld rfl modelM HM6L.out _ rfl rfl ?_)
   generalize hW : World.alloc w6 _ = w7
   have hk7 : Keeps w6 w7 := by rw [← hW]; exact (Keeps.refl _).alloc _
   have hs7 : Blk w7 w6.heap.size 35 (modelA m n wh) := by rw [← hW]; exact Blk.new _ _ _ rfl
   have HM7 := Lib.hid (HM6.out.keeps hk7)
   have HB7 := Lib.hid (HB6.out.keeps hk7)
   have HT7 := Lib.hid (HT6.out.aside hk7 (Nat.le_refl _) hs7.lt)
   have HS7 := Lib.hid hs7
   have hml := HM6.out.lt
   clear hW hk7 hs7
   obtain ⟨sb, hsb⟩ : ∃ z, z = w6.heap.size := ⟨_, rfl⟩
   rw [← hsb] at HT7 HS7 hml ⊢
   have HSN := Lib.hid (Nat.ne_of_gt hml : sb ≠ mb)
   clear hsb hml
   have HMO2 := Lib.hid (HMO.out _ _ _ _ HT7.out (kb HJ.out 108 (by decide) (by decide)) (List.mem_cons_of_mem _ HP4.out.l2) HM7.out)
   clear HMO HT6 HB6 HM6
   go_wp2_with fail
   refine HMO2.out.mono ?_
   intro e w8 ho
   obtain ⟨rfl, ht8, hm8, hmm⟩ := mopen_no HE.out ho
   have HT8 := Lib.hid ht8
   have HM8 := Lib.hid hm8
   have HB8 := Lib.hid (HB7.out.mods hmm (fun hy => hy.2.elim (fun hh => hh (List.mem_cons_of_mem _ HP4.out.l1)) (fun e => HP4.out.ne e)))
   have HS8 := Lib.hid (HS7.out.mods hmm (fun hy => hy.2.elim (fun hh => hh (List.mem_cons_self ..)) (fun e => HSN.out e)))
   clear ho ht8 hm8 hmm HMO2 HT7 HB7 HS7 HM7
   have HSM := Lib.hid (same17_any (.slice none 0 0) (.slice none 0 0) [] [] w8 (TxsAt.nil _ 0).r (TxsAt.nil _ 0).r rfl (Nat.zero_le _))
   go_wp2_with fail
   refine HSM.out.mono ?_
   rintro e w9 ⟨rfl, hk9⟩
   have HT9 := Lib.hid (HT8.out.keeps hk9)
   have HM9 := Lib.hid (HM8.out.keeps hk9)
   have HB9 := Lib.hid (HB8.out.keeps hk9)
   have HS9 := Lib.hid (HS8.out.keeps hk9)
   clear hk9 HSM HT8 HM8 HB8 HS8
   have s1 : w9.cell? ⟨sb, 1, none⟩ = some (.int .i64 (n : Int)) := by rw [HS9.out.cell]; rfl
   have s2 : w9.cell? ⟨sb, 2, none⟩ = some (.bool wh) := by rw [HS9.out.cell]; rfl
   have m1 : w9.cell? ⟨mb, 1, none⟩ = some (.int .i64 (n : Int)) := by rw [HM9.out.cell]; rfl
   have m2 : w9.cell? ⟨mb, 2, none⟩ = some (.bool wh) := by rw [HM9.out.cell]; rfl
   have z1 : w9.frozen? ⟨mb, 1, none⟩ = false := HM9.out.frozen _
   have z2 : w9.frozen? ⟨mb, 2, none⟩ = false := HM9.out.frozen _
   have hsm := HSN.out
   go_wp2_with fail
   refine HK.out _ _ _ _ _ _ _ _ _ _ _ _ _ _ _ _ _ _ _ _ _ _ _ _ _ _ _ _ _ _ _ _ _ _ _ _ _ _ _ _ _ _ _ _ _ _ _ _ _ _ _ _ _ _ _ _ _ _ _ _ _ _ _ _ _ _ _ _ _ _ _ _ _ _ _ _ _ _ _ _ _ _ _ _ _ _ _ _ _ _ _ _ _ _ _ _ _ _ _ _ _ _ _ _ _ _ _ _ _ _ _ _ _ _ _ _ _ _ _ _ _ _ _ _ _ _ _ _ _ _ _ _ _ _ _ _ _ _ _ _ _ _ _ _ _ _ _ _ _ _ _ _ _ _ _ _ _ _ _ _ _ _ _ _ _ _ _ _ _ _ _ _ _ _ _ _ _ _ _ ?_
   go_light
   refine ⟨_, lb, n, wh, d1, r1, rfl, Lib.hid ⟨(TwoAt.mine (TwoAt.mine HT9.out (List.mem_cons_of_mem _ HP4.out.l2) _ HP4.out.w2) (List.mem_cons_of_mem _ HP4.out.l2) _ HP4.out.w2).more (by omega), HD1.out.more (by omega), (HB9.out.far (p := ⟨mb, 1, none⟩) HP4.out.ne _).far (p := ⟨mb, 2, none⟩) HP4.out.ne _, ?_, List.mem_cons_of_mem _ HP4.out.l1, List.mem_cons_of_mem _ HP4.out.l2, HP4.out.w1, HP4.out.w2⟩, Lib.hid (by have := HGR.out; have := HN4.out; have := HN.out; omega), Lib.hid (by have := HNN.out; omega)⟩
   exact (HM9.out.set_ 1 (.int .i64 (n : Int))).set_ 2 (.bool wh)
end Txl
end Go.Proofs.YtchjncnolmiejaaGreat

/- TxlogPlays' round. Written by gen_tpkinds.py. -/
namespace Go.Proofs.YtchjncnolmiejaaGreat
open Go.RowKit
namespace Txl
open Vd Rf Rs
open Sf (sMake sAppend sSwap rMake rAppend rSwap)
open Go.Maps
set_option maxRecDepth 100000 in
set_option maxHeartbeats 8000000 in
theorem kind5 (W wa : World) (g m mb lb q n j : Nat) (wh : Bool) (d : Dsk) (r : RDsk) (L : List Nat) (its : List (Value × List UInt8)) (xk xn xc : Int) (h5 : xk = 5) (pi pk : Option Addr) (ci ck : Nat) (ks : List Int) (HPa : Hid (Pair (q :: L) W wa g d m r (300 * (j + 1)) (100 * (j + 1)) lb mb n wh)) (HQ : Hid (Blk wa q 47 #[.int .i64 xk, .slice pi its.length ci, .int .i64 xn, .int .i64 xc, .slice pk ks.length ck])) (HIT : Hid (Row W (.slice pi its.length ci) (its.map (·.1)))) (HPY : Hid (∀ y ∈ its, Frm.payOk W y)) (HXN : Hid ((Lit.int .i64 xn).wf = true)) (HKS : Hid (Row W (.slice pk ks.length ck) (ks.map (Value.int .i64)))) (HN : Hid (d.nodes.length ≤ j + 2)) (HNN : Hid (n ≤ 1000000000 + j)) (HJ : Hid (j < 40)) (u0 u1 u2 u3 u4 u5 u6 u7 u8 u9 u14 u15 u16 u17 u18 u20 u21 u22 u23 u24 u25 u26 u27 u28 u29 u30 u31 u32 u33 u34 u35 u36 u37 u38 u39 u40 u41 u42 u43 u44 u45 u46 u47 u48 u49 u50 u51 u52 u53 u54 u55 u56 u57 u58 u59 u60 u61 u62 u63 u64 u65 u66 u67 u68 u69 u70 u71 u72 u73 u74 u75 u76 u77 u78 u79 u80 u81 u82 u83 u84 u85 u86 u87 u88 u89 u90 u91 u92 u93 u94 u95 u96 u97 u98 u99 u100 u101 u102 u103 u104 u105 u106 u107 u108 u109 u110 u111 u112 u113 u114 u115 u117 u118 u119 u120 u121 u122 u123 u124 u125 u126 u127 u128 u129 u130 u131 u132 u133 u134 u135 u136 u137 u138 u139 u140 u141 u142 u143 u144 u145 u146 u147 u148 u149 u150 u151 u152 u153 u154 u155 u156 u157 u158 u159 u160 u161 u162 u163 u164 u165 u166 u167 u168 u169 u170 u171 u172 u173 u174 u175 u176 u177 u178 u179 u180 u181 u182 u183 u184 u185 u186 u187 u188 u189 u190 u191 u192 u193 u194 u195 u196 u197 u198 u199 u200 u201 u202 u203 u204 u205 u206 u207 u208 u209 u210 u211 u212 u213 u214 u215 u216 u217 u218 u219 u220 u221 u222 u223 u224 u225 u226 u227 u228 u229 u230 u231 u232 u233 u234 u235 u236 u237 u238 u239 u240 u241 u242 u243 u244 u245 u246 u247 u248 u249 u250 u251 u252 u253 u254 u255 u256 u257 u258 u259 u260 u261 u262 u263 u264 u265 u266 u267 u268 u269 u270 u271 u272 u273 : Value) (sw : Code) (hsw : sw = at_ [true, true, true, true, true, true, true, true, true, true, true, true, false, true, false, false, true, false, false, true, false, true] (Tryz.f3.body.getD .skip)) (K : Act → World → Prop) (Q : Exit → Act → World → Prop) (HK : Hid (∀ (v13 v20 v21 v22 v23 v24 v25 v26 v27 v105 v106 v107 v108 v109 v110 v111 v112 v113 v114 v115 v116 v117 v118 v119 v120 v121 v122 v123 v124 v125 v126 v127 v128 v129 v130 v131 v132 v133 v134 v135 v136 v137 v138 v139 v140 v141 v142 v143 v144 v145 v146 v147 v148 v149 v150 v151 v152 v153 v154 v155 v156 v157 v158 v159 v160 v161 v162 v163 v164 v165 v166 v167 v168 v169 v170 v171 v172 v173 v174 v175 v176 v177 v178 v179 v180 v181 v182 v183 v184 v185 v186 v187 v188 v189 v190 v191 v192 v193 v194 v195 v196 v197 v198 v199 v200 v201 v202 v203 v204 v205 v206 v207 v208 v209 v210 v211 v212 v213 v214 v215 v216 v217 v218 v219 v220 v221 v222 v223 v224 v225 v226 v227 v228 v229 v230 v231 v232 v233 v234 v235 v236 v237 v238 v239 v240 v241 v242 v243 v244 v245 v246 v247 v248 v249 v250 v251 v252 v253 v254 v255 v256 v257 v258 v259 v260 v261 v262 v263 v264 v265 v266 v267 v268 v269 v270 v271 v272 v273 : Value) (wx : World), (∃ (L2 : List Nat) (lb2 n2 : Nat) (wh2 : Bool) (d2 : Dsk) (r2 : RDsk), v13 = .pointer (some ⟨lb2, 0, none⟩) ∧ Hid (Pair L2 W wx g d2 m r2 (300 * (j + 1 + 1)) (100 * (j + 1 + 1)) lb2 mb n2 wh2) ∧ Hid (d2.nodes.length ≤ j + 1 + 2) ∧ Hid (n2 ≤ 1000000000 + (j + 1))) → K ⟨#[u0, u1, u2, u3, u4, u5, u6, u7, u8, u9, .pointer (some ⟨g, 0, none⟩), .pointer (some ⟨m, 0, none⟩), .pointer (some ⟨mb, 0, none⟩), v13, u14, u15, u16, u17, u18, .pointer (some ⟨q, 0, none⟩), v20, v21, v22, v23, v24, v25, v26, v27, u28, u29, u30, u31, u32, u33, u34, u35, u36, u37, u38, u39, u40, u41, u42, u43, u44, u45, u46, u47, u48, u49, u50, u51, u52, u53, u54, u55, u56, u57, u58, u59, u60, u61, u62, u63, u64, u65, u66, u67, u68, u69, u70, u71, u72, u73, u74, u75, u76, u77, u78, u79, u80, u81, u82, u83, u84, u85, u86, u87, u88, u89, u90, u91, u92, u93, u94, u95, u96, u97, u98, u99, u100, u101, u102, u103, u104, v105, v106, v107, v108, v109, v110, v111, v112, v113, v114, v115, v116, v117, v118, v119, v120, v121, v122, v123, v124, v125, v126, v127, v128, v129, v130, v131, v132, v133, v134, v135, v136, v137, v138, v139, v140, v141, v142, v143, v144, v145, v146, v147, v148, v149, v150, v151, v152, v153, v154, v155, v156, v157, v158, v159, v160, v161, v162, v163, v164, v165, v166, v167, v168, v169, v170, v171, v172, v173, v174, v175, v176, v177, v178, v179, v180, v181, v182, v183, v184, v185, v186, v187, v188, v189, v190, v191, v192, v193, v194, v195, v196, v197, v198, v199, v200, v201, v202, v203, v204, v205, v206, v207, v208, v209, v210, v211, v212, v213, v214, v215, v216, v217, v218, v219, v220, v221, v222, v223, v224, v225, v226, v227, v228, v229, v230, v231, v232, v233, v234, v235, v236, v237, v238, v239, v240, v241, v242, v243, v244, v245, v246, v247, v248, v249, v250, v251, v252, v253, v254, v255, v256, v257, v258, v259, v260, v261, v262, v263, v264, v265, v266, v267, v268, v269, v270, v271, v272, v273], []⟩ wx)) : Code.wp Tryz.prog sw (Exit.then K Q) ⟨#[u0, u1, u2, u3, u4, u5, u6, u7, u8, u9, .pointer (some ⟨g, 0, none⟩), .pointer (some ⟨m, 0, none⟩), .pointer (some ⟨mb, 0, none⟩), .pointer (some ⟨lb, 0, none⟩), u14, u15, u16, u17, u18, .pointer (some ⟨q, 0, none⟩), u20, u21, u22, u23, u24, u25, u26, u27, u28, u29, u30, u31, u32, u33, u34, u35, u36, u37, u38, u39, u40, u41, u42, u43, u44, u45, u46, u47, u48, u49, u50, u51, u52, u53, u54, u55, u56, u57, u58, u59, u60, u61, u62, u63, u64, u65, u66, u67, u68, u69, u70, u71, u72, u73, u74, u75, u76, u77, u78, u79, u80, u81, u82, u83, u84, u85, u86, u87, u88, u89, u90, u91, u92, u93, u94, u95, u96, u97, u98, u99, u100, u101, u102, u103, u104, u105, u106, u107, u108, u109, u110, u111, u112, u113, u114, u115, .int .i64 xk, u117, u118, u119, u120, u121, u122, u123, u124, u125, u126, u127, u128, u129, u130, u131, u132, u133, u134, u135, u136, u137, u138, u139, u140, u141, u142, u143, u144, u145, u146, u147, u148, u149, u150, u151, u152, u153, u154, u155, u156, u157, u158, u159, u160, u161, u162, u163, u164, u165, u166, u167, u168, u169, u170, u171, u172, u173, u174, u175, u176, u177, u178, u179, u180, u181, u182, u183, u184, u185, u186, u187, u188, u189, u190, u191, u192, u193, u194, u195, u196, u197, u198, u199, u200, u201, u202, u203, u204, u205, u206, u207, u208, u209, u210, u211, u212, u213, u214, u215, u216, u217, u218, u219, u220, u221, u222, u223, u224, u225, u226, u227, u228, u229, u230, u231, u232, u233, u234, u235, u236, u237, u238, u239, u240, u241, u242, u243, u244, u245, u246, u247, u248, u249, u250, u251, u252, u253, u254, u255, u256, u257, u258, u259, u260, u261, u262, u263, u264, u265, u266, u267, u268, u269, u270, u271, u272, u273], []⟩ wa := by
 have HNI := Lib.hid (Sa.wf_in HXN.out)
 rw [hsw]
 dsimp only [at_, Tryz.f3, Option.getD]
 clear hsw
 subst h5
 obtain ⟨L3, hL3⟩ : ∃ z, z = q :: L := ⟨_, rfl⟩
 have HQL := Lib.hid (show q ∈ L3 from by rw [hL3]; exact List.mem_cons_self ..)
 rw [← hL3] at HPa
 clear hL3
 go_upto_region 43 with fail
 go_cut [205] from 188 to 204 (fun t wx => t = .bool false ∧ ∃ (d4 : Dsk) (r4 : RDsk), Hid (Pair L3 W wx g d4 m r4 (300 * (j + 1) + 100) (100 * (j + 1) + 10) lb mb n wh) ∧ Hid (d4.nodes.length ≤ d.nodes.length))

 case first =>
  have q0 : wa.cell? ⟨q, 0, none⟩ = some (.int .i64 5) := by rw [HQ.out.cell]; rfl
  refine wp_region_noPanic ?_
  refine wp_region_held_drew (S := fun w' => Keeps (wa) w') (by kernel_rfl) ((Keeps.refl _).drew) (fun _ => ?_)
  have hHeld : Keeps (wa) (wa).drew := (Keeps.refl _).drew
  refine tq 0 188 ?_
  refine tq 1 189 ?_ (hy := fun w' hSw => by
   have hSw : Keeps _ w' := hSw
   have hx := keep1 hSw q0
   clear hSw
   go_simp
   try with_reducible rfl)
  refine tq 2 190 ?_
  refine tq 3 191 ?_
  refine wpAnyH_take (i := 4) (v := undef) (by rfl) (by kernel_rfl) (by kernel_rfl) (by kernel_rfl) (by intro _ _ _ h; exact h) (Or.inr ⟨by kernel_rfl, rfl⟩) (by assumption) ?rest5
  change wpAnyH _ _ _ _ _ _ _ (Act.put _ (some 192) _) _
  try simp only [Act.put, List.setIfInBounds_toArray, List.set_cons_zero, List.set_cons_succ]
  refine wpAnyH_take (i := 5) (v := undef) (by rfl) (by kernel_rfl) (by kernel_rfl) (by kernel_rfl) (by intro _ _ _ h; exact h) (Or.inr ⟨by kernel_rfl, rfl⟩) (by assumption) ?rest6
  change wpAnyH _ _ _ _ _ _ _ (Act.put _ (some 193) _) _
  try simp only [Act.put, List.setIfInBounds_toArray, List.set_cons_zero, List.set_cons_succ]
  refine wpAnyH_take (i := 6) (v := undef) (by rfl) (by kernel_rfl) (by kernel_rfl) (by kernel_rfl) (by intro _ _ _ h; exact h) (Or.inr ⟨by kernel_rfl, rfl⟩) (by assumption) ?rest7
  change wpAnyH _ _ _ _ _ _ _ (Act.put _ (some 194) _) _
  try simp only [Act.put, List.setIfInBounds_toArray, List.set_cons_zero, List.set_cons_succ]
  refine wpAnyH_take (i := 7) (v := undef) (by rfl) (by kernel_rfl) (by kernel_rfl) (by kernel_rfl) (by intro _ _ _ h; exact h) (Or.inr ⟨by kernel_rfl, rfl⟩) (by assumption) ?rest8
  change wpAnyH _ _ _ _ _ _ _ (Act.put _ (some 195) _) _
  try simp only [Act.put, List.setIfInBounds_toArray, List.set_cons_zero, List.set_cons_succ]
  refine wpAnyH_take (i := 8) (v := undef) (by rfl) (by kernel_rfl) (by kernel_rfl) (by kernel_rfl) (by intro _ _ _ h; exact h) (Or.inr ⟨by kernel_rfl, rfl⟩) (by assumption) ?rest9
  change wpAnyH _ _ _ _ _ _ _ (Act.put _ (some 196) _) _
  try simp only [Act.put, List.setIfInBounds_toArray, List.set_cons_zero, List.set_cons_succ]
  refine wpAnyH_take (i := 9) (v := undef) (by rfl) (by kernel_rfl) (by kernel_rfl) (by kernel_rfl) (by intro _ _ _ h; exact h) (Or.inr ⟨by kernel_rfl, rfl⟩) (by assumption) ?rest10
  change wpAnyH _ _ _ _ _ _ _ (Act.put _ (some 197) _) _
  try simp only [Act.put, List.setIfInBounds_toArray, List.set_cons_zero, List.set_cons_succ]
  refine wpAnyH_take (i := 10) (v := undef) (by rfl) (by kernel_rfl) (by kernel_rfl) (by kernel_rfl) (by intro _ _ _ h; exact h) (Or.inr ⟨by kernel_rfl, rfl⟩) (by assumption) ?rest11
  change wpAnyH _ _ _ _ _ _ _ (Act.put _ (some 198) _) _
  try simp only [Act.put, List.setIfInBounds_toArray, List.set_cons_zero, List.set_cons_succ]
  refine wpAnyH_take (i := 11) (v := undef) (by rfl) (by kernel_rfl) (by kernel_rfl) (by kernel_rfl) (by intro _ _ _ h; exact h) (Or.inr ⟨by kernel_rfl, rfl⟩) (by assumption) ?rest12
  change wpAnyH _ _ _ _ _ _ _ (Act.put _ (some 199) _) _
  try simp only [Act.put, List.setIfInBounds_toArray, List.set_cons_zero, List.set_cons_succ]
  refine wpAnyH_take (i := 12) (v := undef) (by rfl) (by kernel_rfl) (by kernel_rfl) (by kernel_rfl) (by intro _ _ _ h; exact h) (Or.inr ⟨by kernel_rfl, rfl⟩) (by assumption) ?rest13
  change wpAnyH _ _ _ _ _ _ _ (Act.put _ (some 200) _) _
  try simp only [Act.put, List.setIfInBounds_toArray, List.set_cons_zero, List.set_cons_succ]
  refine wpAnyH_take (i := 13) (v := undef) (by rfl) (by kernel_rfl) (by kernel_rfl) (by kernel_rfl) (by intro _ _ _ h; exact h) (Or.inr ⟨by kernel_rfl, rfl⟩) (by assumption) ?rest14
  change wpAnyH _ _ _ _ _ _ _ (Act.put _ (some 201) _) _
  try simp only [Act.put, List.setIfInBounds_toArray, List.set_cons_zero, List.set_cons_succ]
  refine wpAnyH_take (i := 14) (v := undef) (by rfl) (by kernel_rfl) (by kernel_rfl) (by kernel_rfl) (by intro _ _ _ h; exact h) (Or.inr ⟨by kernel_rfl, rfl⟩) (by assumption) ?rest15
  change wpAnyH _ _ _ _ _ _ _ (Act.put _ (some 202) _) _
  try simp only [Act.put, List.setIfInBounds_toArray, List.set_cons_zero, List.set_cons_succ]
  refine wpAnyH_take (i := 15) (v := undef) (by rfl) (by kernel_rfl) (by kernel_rfl) (by kernel_rfl) (by intro _ _ _ h; exact h) (Or.inr ⟨by kernel_rfl, rfl⟩) (by assumption) ?rest16
  change wpAnyH _ _ _ _ _ _ _ (Act.put _ (some 203) _) _
  try simp only [Act.put, List.setIfInBounds_toArray, List.set_cons_zero, List.set_cons_succ]
  refine wpAnyH_take (i := 16) (v := undef) (by rfl) (by kernel_rfl) (by kernel_rfl) (by kernel_rfl) (by intro _ _ _ h; exact h) (Or.inr ⟨by kernel_rfl, rfl⟩) (by assumption) ?rest17
  change wpAnyH _ _ _ _ _ _ _ (Act.put _ (some 204) _) _
  try simp only [Act.put, List.setIfInBounds_toArray, List.set_cons_zero, List.set_cons_succ]
  refine tq 17 205 ?_
  refine wpAnyH_done (by kernel_rfl) ?_ _
  refine NoPanic.normal ?_
  have HPf := Lib.hid (HPa.out.keeps hHeld)
  clear hHeld q0
  go_wp2_with fail
  go_meet
  go_light
  exact ⟨rfl, d, r, Lib.hid (HPf.out.more (by omega) (by omega)), Lib.hid (Nat.le_refl _)⟩

 case rest =>
 obtain ⟨rfl, d4, r4, HP4, HN4⟩ := hcut
 obtain ⟨w4, rfl⟩ : ∃ z : World, z = wc := ⟨_, rfl⟩
 clear HPa
 have HOP := Lib.hid (open_two HP4.out.two (kb HJ.out 100 (by decide) (by decide)) [120] (by decide))
 have HMO := Lib.hid (fun (L2 : List Nat) (w6 : World) (d2 : Dsk) (k2 : Nat) (h2 : TwoAt L2 W w6 g d2 m r4 k2) (hk : k2 ≤ 89800) (hl : mb ∈ L2) (hB : Blk w6 mb 35 (modelA m n wh)) => mopen_two HP4.out.dr h2 hk hl HP4.out.w2 hB)
 have HFT := Lib.hid (open_fit HP4.out.two HP4.out.dr [120])
 have HGR := Lib.hid (grows_open d4 [120])
 have HOA := Lib.hid (open_al [120] (cb HJ.out 18 (by decide) (by decide)) HP4.out.dr)
 generalize openD d4 [120] = qd at *
 generalize openR r4 [120] = qr at *
 obtain ⟨d1, e1, s⟩ := qd
 obtain ⟨r1, e2, s2⟩ := qr
 obtain ⟨hes, hd1⟩ := HOA.out
 simp only [Prod.mk.injEq] at hes
 obtain ⟨rfl, rfl⟩ := hes
 have HD1 := Lib.hid hd1
 simp only at HFT HGR HD1
 clear hd1 HOA
 by_cases he : e1 = 0
 ·as_aux_lemma =>
   subst he
   go_wp2_with fail
   refine HOP.out.mono ?_
   intro e w6 ho
   obtain ⟨lb2, pt, ct, X, rfl, hlb, ht6, hm6, hB6, hX6, hXe⟩ := open_yes ho
   have HM6 := Lib.hid (HP4.out.mod.mods hm6 (fun hy => hy.2 HP4.out.l2))
   have HB6 := Lib.hid hB6
   have HX6 := Lib.hid hX6
   have HXE := Lib.hid hXe
   have HLW := Lib.hid (Nat.le_trans HP4.out.two.kp.size hlb)
   have HNE := Lib.hid (ne_of hlb HP4.out.mod.lt : lb2 ≠ mb)
   have HT6 := Lib.hid ht6
   clear ho hlb ht6 hm6 hB6 hX6 hXe HOP
   have HM6L := Lib.hid (show Blk w6 mb 35 #[.pointer (some ⟨m, 0, none⟩), .int .i64 (n : Int), .bool wh] from HM6.out)
   go_upto_region 47 with (refine wpList_ld rfl modelM HM6L.out _ rfl rfl ?_)
   generalize hW : World.alloc w6 _ = w7
   have hk7 : Keeps w6 w7 := by rw [← hW]; exact (Keeps.refl _).alloc _
   have HM7 := Lib.hid (HM6.out.keeps hk7)
   have HB7 := Lib.hid (HB6.out.keeps hk7)
   have HT7 := Lib.hid (HT6.out.keeps hk7)
   have HX7 := Lib.hid (HX6.out.keeps hk7)
   clear hW hk7
   have HMO2 := Lib.hid (HMO.out _ _ _ _ HT7.out (kb HJ.out 108 (by decide) (by decide)) (List.mem_cons_of_mem _ HP4.out.l2) HM7.out)
   clear HMO HT6 HB6 HX6 HM6
   go_wp2_with fail
   refine HMO2.out.mono ?_
   intro e w8 ho
   obtain ⟨pu, cu, Y, rfl, ht8, hm8, hmm, hY, hYe, hst⟩ := mopen_yes ho
   have HP8 := Lib.hid (show Pair (lb2 :: L3) W w8 g d1 m r1 (300 * (j + 1 + 1)) (100 * (j + 1 + 1)) lb2 mb (rep s).1.length (decide ((rep s).2 = (s.length : Int))) from { two := ht8.more (ku 138 (by decide)), dr := HD1.out.more (cup 18 (by decide)), log := HB7.out.mods hmm (fun hy => hy.2.elim (fun hh => hh (List.mem_cons_self ..)) HNE.out), mod := hm8, l1 := List.mem_cons_self .., l2 := List.mem_cons_of_mem _ HP4.out.l2, w1 := HLW.out, w2 := HP4.out.w2 })
   have hxl : X.length = (rep s).1.length := by rw [← HXE.out, List.length_map]
   have HSM := Lib.hid (same17_any _ _ X Y w8 (txs_stay HX7.out HXE.out HM7.out hst) hY (HXE.out.trans hYe.symm) (xl hxl (rep_len s) HFT.out))
   have HN1 := Lib.hid (show (rep s).1.length ≤ 1000000000 from Nat.le_trans (rep_len s) HFT.out)
   generalize (rep s).1.length = n0 at HP8 HN1
   generalize decide ((rep s).2 = (s.length : Int)) = wh0 at HP8
   clear ho ht8 hm8 hmm hY hYe hst hxl HMO2 HT7 HB7 HX7 HXE HM7 HP4
   go_wp2_with fail
   refine HSM.out.mono ?_
   rintro e w9 ⟨rfl, hk9⟩
   have HP9 := Lib.hid (HP8.out.keeps hk9)
   clear hk9 HSM HP8
   go_wp2_with fail
   refine HK.out _ _ _ _ _ _ _ _ _ _ _ _ _ _ _ _ _ _ _ _ _ _ _ _ _ _ _ _ _ _ _ _ _ _ _ _ _ _ _ _ _ _ _ _ _ _ _ _ _ _ _ _ _ _ _ _ _ _ _ _ _ _ _ _ _ _ _ _ _ _ _ _ _ _ _ _ _ _ _ _ _ _ _ _ _ _ _ _ _ _ _ _ _ _ _ _ _ _ _ _ _ _ _ _ _ _ _ _ _ _ _ _ _ _ _ _ _ _ _ _ _ _ _ _ _ _ _ _ _ _ _ _ _ _ _ _ _ _ _ _ _ _ _ _ _ _ _ _ _ _ _ _ _ _ _ _ _ _ _ _ _ _ _ _ _ _ _ _ _ _ _ _ _ _ _ _ _ _ _ ?_
   go_light
   exact ⟨_, lb2, n0, wh0, d1, r1, rfl, HP9, Lib.hid (by have := HGR.out; have := HN4.out; have := HN.out; omega), Lib.hid (by have := HN1.out; omega)⟩
 ·as_aux_lemma =>
   have HE := Lib.hid he
   have h0 : (e1 == 0) = false := by simp [he]
   have h00 : (e1 != 0) = true := by simp [he]
   have hee : (e1 != e1) = false := by simp
   clear he
   go_wp2_with fail
   refine HOP.out.mono ?_
   intro e w6 ho
   obtain ⟨rfl, ht6, hm6⟩ := open_no HE.out ho
   have HT6 := Lib.hid ht6
   have HM6 := Lib.hid (HP4.out.mod.mods hm6 (fun hy => hy.2 HP4.out.l2))
   have HB6 := Lib.hid (HP4.out.log.mods hm6 (fun hy => hy.2 HP4.out.l1))
   clear ho ht6 hm6 HOP
   have HM6L := Lib.hid (show Blk w6 mb 35 #[.pointer (some ⟨m, 0, none⟩), .int .i64 (n : Int), .bool wh] from HM6.out)
   go_upto_region 47 with (refine wpList_ld rfl modelM HM6L.out _ rfl rfl ?_)
   generalize hW : World.alloc w6 _ = w7
   have hk7 : Keeps w6 w7 := by rw [← hW]; exact (Keeps.refl _).alloc _
   have hs7 : Blk w7 w6.heap.size 35 (modelA m n wh) := by rw [← hW]; exact Blk.new _ _ _ rfl
   have HM7 := Lib.hid (HM6.out.keeps hk7)
   have HB7 := Lib.hid (HB6.out.keeps hk7)
   have HT7 := Lib.hid (HT6.out.aside hk7 (Nat.le_refl _) hs7.lt)
   have HS7 := Lib.hid hs7
   have hml := HM6.out.lt
   clear hW hk7 hs7
   obtain ⟨sb, hsb⟩ : ∃ z, z = w6.heap.size := ⟨_, rfl⟩
   rw [← hsb] at HT7 HS7 hml ⊢
   have HSN := Lib.hid (Nat.ne_of_gt hml : sb ≠ mb)
   clear hsb hml
   have HMO2 := Lib.hid (HMO.out _ _ _ _ HT7.out (kb HJ.out 108 (by decide) (by decide)) (List.mem_cons_of_mem _ HP4.out.l2) HM7.out)
   clear HMO HT6 HB6 HM6
   go_wp2_with fail
   refine HMO2.out.mono ?_
   intro e w8 ho
   obtain ⟨rfl, ht8, hm8, hmm⟩ := mopen_no HE.out ho
   have HT8 := Lib.hid ht8
   have HM8 := Lib.hid hm8
   have HB8 := Lib.hid (HB7.out.mods hmm (fun hy => hy.2.elim (fun hh => hh (List.mem_cons_of_mem _ HP4.out.l1)) (fun e => HP4.out.ne e)))
   have HS8 := Lib.hid (HS7.out.mods hmm (fun hy => hy.2.elim (fun hh => hh (List.mem_cons_self ..)) (fun e => HSN.out e)))
   clear ho ht8 hm8 hmm HMO2 HT7 HB7 HS7 HM7
   have HSM := Lib.hid (same17_any (.slice none 0 0) (.slice none 0 0) [] [] w8 (TxsAt.nil _ 0).r (TxsAt.nil _ 0).r rfl (Nat.zero_le _))
   go_wp2_with fail
   refine HSM.out.mono ?_
   rintro e w9 ⟨rfl, hk9⟩
   have HT9 := Lib.hid (HT8.out.keeps hk9)
   have HM9 := Lib.hid (HM8.out.keeps hk9)
   have HB9 := Lib.hid (HB8.out.keeps hk9)
   have HS9 := Lib.hid (HS8.out.keeps hk9)
   clear hk9 HSM HT8 HM8 HB8 HS8
   have s1 : w9.cell? ⟨sb, 1, none⟩ = some (.int .i64 (n : Int)) := by rw [HS9.out.cell]; rfl
   have s2 : w9.cell? ⟨sb, 2, none⟩ = some (.bool wh) := by rw [HS9.out.cell]; rfl
   have m1 : w9.cell? ⟨mb, 1, none⟩ = some (.int .i64 (n : Int)) := by rw [HM9.out.cell]; rfl
   have m2 : w9.cell? ⟨mb, 2, none⟩ = some (.bool wh) := by rw [HM9.out.cell]; rfl
   have z1 : w9.frozen? ⟨mb, 1, none⟩ = false := HM9.out.frozen _
   have z2 : w9.frozen? ⟨mb, 2, none⟩ = false := HM9.out.frozen _
   have hsm := HSN.out
   go_wp2_with fail
   refine HK.out _ _ _ _ _ _ _ _ _ _ _ _ _ _ _ _ _ _ _ _ _ _ _ _ _ _ _ _ _ _ _ _ _ _ _ _ _ _ _ _ _ _ _ _ _ _ _ _ _ _ _ _ _ _ _ _ _ _ _ _ _ _ _ _ _ _ _ _ _ _ _ _ _ _ _ _ _ _ _ _ _ _ _ _ _ _ _ _ _ _ _ _ _ _ _ _ _ _ _ _ _ _ _ _ _ _ _ _ _ _ _ _ _ _ _ _ _ _ _ _ _ _ _ _ _ _ _ _ _ _ _ _ _ _ _ _ _ _ _ _ _ _ _ _ _ _ _ _ _ _ _ _ _ _ _ _ _ _ _ _ _ _ _ _ _ _ _ _ _ _ _ _ _ _ _ _ _ _ _ ?_
   go_light
   refine ⟨_, lb, n, wh, d1, r1, rfl, Lib.hid ⟨(TwoAt.mine (TwoAt.mine HT9.out (List.mem_cons_of_mem _ HP4.out.l2) _ HP4.out.w2) (List.mem_cons_of_mem _ HP4.out.l2) _ HP4.out.w2).more (by omega), HD1.out.more (by omega), (HB9.out.far (p := ⟨mb, 1, none⟩) HP4.out.ne _).far (p := ⟨mb, 2, none⟩) HP4.out.ne _, ?_, List.mem_cons_of_mem _ HP4.out.l1, List.mem_cons_of_mem _ HP4.out.l2, HP4.out.w1, HP4.out.w2⟩, Lib.hid (by have := HGR.out; have := HN4.out; have := HN.out; omega), Lib.hid (by have := HNN.out; omega)⟩
   exact (HM9.out.set_ 1 (.int .i64 (n : Int))).set_ 2 (.bool wh)
end Txl
end Go.Proofs.YtchjncnolmiejaaGreat

/- TxlogPlays' round. Written by gen_tpkinds.py. -/
namespace Go.Proofs.YtchjncnolmiejaaGreat
open Go.RowKit
namespace Txl
open Vd Rf Rs
open Sf (sMake sAppend sSwap rMake rAppend rSwap)
open Go.Maps
set_option maxRecDepth 100000 in
set_option maxHeartbeats 8000000 in
theorem switch_any (W wa : World) (g m mb lb q n j : Nat) (wh : Bool) (d : Dsk) (r : RDsk) (L : List Nat) (its : List (Value × List UInt8)) (xk xn xc : Int)  (pi pk : Option Addr) (ci ck : Nat) (ks : List Int) (HPa : Hid (Pair (q :: L) W wa g d m r (300 * (j + 1)) (100 * (j + 1)) lb mb n wh)) (HQ : Hid (Blk wa q 47 #[.int .i64 xk, .slice pi its.length ci, .int .i64 xn, .int .i64 xc, .slice pk ks.length ck])) (HIT : Hid (Row W (.slice pi its.length ci) (its.map (·.1)))) (HPY : Hid (∀ y ∈ its, Frm.payOk W y)) (HXN : Hid ((Lit.int .i64 xn).wf = true)) (HKS : Hid (Row W (.slice pk ks.length ck) (ks.map (Value.int .i64)))) (HN : Hid (d.nodes.length ≤ j + 2)) (HNN : Hid (n ≤ 1000000000 + j)) (HJ : Hid (j < 40)) (u0 u1 u2 u3 u4 u5 u6 u7 u8 u9 u14 u15 u16 u17 u18 u20 u21 u22 u23 u24 u25 u26 u27 u28 u29 u30 u31 u32 u33 u34 u35 u36 u37 u38 u39 u40 u41 u42 u43 u44 u45 u46 u47 u48 u49 u50 u51 u52 u53 u54 u55 u56 u57 u58 u59 u60 u61 u62 u63 u64 u65 u66 u67 u68 u69 u70 u71 u72 u73 u74 u75 u76 u77 u78 u79 u80 u81 u82 u83 u84 u85 u86 u87 u88 u89 u90 u91 u92 u93 u94 u95 u96 u97 u98 u99 u100 u101 u102 u103 u104 u105 u106 u107 u108 u109 u110 u111 u112 u113 u114 u115 u117 u118 u119 u120 u121 u122 u123 u124 u125 u126 u127 u128 u129 u130 u131 u132 u133 u134 u135 u136 u137 u138 u139 u140 u141 u142 u143 u144 u145 u146 u147 u148 u149 u150 u151 u152 u153 u154 u155 u156 u157 u158 u159 u160 u161 u162 u163 u164 u165 u166 u167 u168 u169 u170 u171 u172 u173 u174 u175 u176 u177 u178 u179 u180 u181 u182 u183 u184 u185 u186 u187 u188 u189 u190 u191 u192 u193 u194 u195 u196 u197 u198 u199 u200 u201 u202 u203 u204 u205 u206 u207 u208 u209 u210 u211 u212 u213 u214 u215 u216 u217 u218 u219 u220 u221 u222 u223 u224 u225 u226 u227 u228 u229 u230 u231 u232 u233 u234 u235 u236 u237 u238 u239 u240 u241 u242 u243 u244 u245 u246 u247 u248 u249 u250 u251 u252 u253 u254 u255 u256 u257 u258 u259 u260 u261 u262 u263 u264 u265 u266 u267 u268 u269 u270 u271 u272 u273 : Value) (sw : Code) (hsw : sw = at_ [true, true, true, true, true, true, true, true, true, true, true, true, false, true, false, false, true, false, false, true, false, true] (Tryz.f3.body.getD .skip)) (K : Act → World → Prop) (Q : Exit → Act → World → Prop) (HK : Hid (∀ (v13 v20 v21 v22 v23 v24 v25 v26 v27 v105 v106 v107 v108 v109 v110 v111 v112 v113 v114 v115 v116 v117 v118 v119 v120 v121 v122 v123 v124 v125 v126 v127 v128 v129 v130 v131 v132 v133 v134 v135 v136 v137 v138 v139 v140 v141 v142 v143 v144 v145 v146 v147 v148 v149 v150 v151 v152 v153 v154 v155 v156 v157 v158 v159 v160 v161 v162 v163 v164 v165 v166 v167 v168 v169 v170 v171 v172 v173 v174 v175 v176 v177 v178 v179 v180 v181 v182 v183 v184 v185 v186 v187 v188 v189 v190 v191 v192 v193 v194 v195 v196 v197 v198 v199 v200 v201 v202 v203 v204 v205 v206 v207 v208 v209 v210 v211 v212 v213 v214 v215 v216 v217 v218 v219 v220 v221 v222 v223 v224 v225 v226 v227 v228 v229 v230 v231 v232 v233 v234 v235 v236 v237 v238 v239 v240 v241 v242 v243 v244 v245 v246 v247 v248 v249 v250 v251 v252 v253 v254 v255 v256 v257 v258 v259 v260 v261 v262 v263 v264 v265 v266 v267 v268 v269 v270 v271 v272 v273 : Value) (wx : World), (∃ (L2 : List Nat) (lb2 n2 : Nat) (wh2 : Bool) (d2 : Dsk) (r2 : RDsk), v13 = .pointer (some ⟨lb2, 0, none⟩) ∧ Hid (Pair L2 W wx g d2 m r2 (300 * (j + 1 + 1)) (100 * (j + 1 + 1)) lb2 mb n2 wh2) ∧ Hid (d2.nodes.length ≤ j + 1 + 2) ∧ Hid (n2 ≤ 1000000000 + (j + 1))) → K ⟨#[u0, u1, u2, u3, u4, u5, u6, u7, u8, u9, .pointer (some ⟨g, 0, none⟩), .pointer (some ⟨m, 0, none⟩), .pointer (some ⟨mb, 0, none⟩), v13, u14, u15, u16, u17, u18, .pointer (some ⟨q, 0, none⟩), v20, v21, v22, v23, v24, v25, v26, v27, u28, u29, u30, u31, u32, u33, u34, u35, u36, u37, u38, u39, u40, u41, u42, u43, u44, u45, u46, u47, u48, u49, u50, u51, u52, u53, u54, u55, u56, u57, u58, u59, u60, u61, u62, u63, u64, u65, u66, u67, u68, u69, u70, u71, u72, u73, u74, u75, u76, u77, u78, u79, u80, u81, u82, u83, u84, u85, u86, u87, u88, u89, u90, u91, u92, u93, u94, u95, u96, u97, u98, u99, u100, u101, u102, u103, u104, v105, v106, v107, v108, v109, v110, v111, v112, v113, v114, v115, v116, v117, v118, v119, v120, v121, v122, v123, v124, v125, v126, v127, v128, v129, v130, v131, v132, v133, v134, v135, v136, v137, v138, v139, v140, v141, v142, v143, v144, v145, v146, v147, v148, v149, v150, v151, v152, v153, v154, v155, v156, v157, v158, v159, v160, v161, v162, v163, v164, v165, v166, v167, v168, v169, v170, v171, v172, v173, v174, v175, v176, v177, v178, v179, v180, v181, v182, v183, v184, v185, v186, v187, v188, v189, v190, v191, v192, v193, v194, v195, v196, v197, v198, v199, v200, v201, v202, v203, v204, v205, v206, v207, v208, v209, v210, v211, v212, v213, v214, v215, v216, v217, v218, v219, v220, v221, v222, v223, v224, v225, v226, v227, v228, v229, v230, v231, v232, v233, v234, v235, v236, v237, v238, v239, v240, v241, v242, v243, v244, v245, v246, v247, v248, v249, v250, v251, v252, v253, v254, v255, v256, v257, v258, v259, v260, v261, v262, v263, v264, v265, v266, v267, v268, v269, v270, v271, v272, v273], []⟩ wx)) : Code.wp Tryz.prog sw (Exit.then K Q) ⟨#[u0, u1, u2, u3, u4, u5, u6, u7, u8, u9, .pointer (some ⟨g, 0, none⟩), .pointer (some ⟨m, 0, none⟩), .pointer (some ⟨mb, 0, none⟩), .pointer (some ⟨lb, 0, none⟩), u14, u15, u16, u17, u18, .pointer (some ⟨q, 0, none⟩), u20, u21, u22, u23, u24, u25, u26, u27, u28, u29, u30, u31, u32, u33, u34, u35, u36, u37, u38, u39, u40, u41, u42, u43, u44, u45, u46, u47, u48, u49, u50, u51, u52, u53, u54, u55, u56, u57, u58, u59, u60, u61, u62, u63, u64, u65, u66, u67, u68, u69, u70, u71, u72, u73, u74, u75, u76, u77, u78, u79, u80, u81, u82, u83, u84, u85, u86, u87, u88, u89, u90, u91, u92, u93, u94, u95, u96, u97, u98, u99, u100, u101, u102, u103, u104, u105, u106, u107, u108, u109, u110, u111, u112, u113, u114, u115, .int .i64 xk, u117, u118, u119, u120, u121, u122, u123, u124, u125, u126, u127, u128, u129, u130, u131, u132, u133, u134, u135, u136, u137, u138, u139, u140, u141, u142, u143, u144, u145, u146, u147, u148, u149, u150, u151, u152, u153, u154, u155, u156, u157, u158, u159, u160, u161, u162, u163, u164, u165, u166, u167, u168, u169, u170, u171, u172, u173, u174, u175, u176, u177, u178, u179, u180, u181, u182, u183, u184, u185, u186, u187, u188, u189, u190, u191, u192, u193, u194, u195, u196, u197, u198, u199, u200, u201, u202, u203, u204, u205, u206, u207, u208, u209, u210, u211, u212, u213, u214, u215, u216, u217, u218, u219, u220, u221, u222, u223, u224, u225, u226, u227, u228, u229, u230, u231, u232, u233, u234, u235, u236, u237, u238, u239, u240, u241, u242, u243, u244, u245, u246, u247, u248, u249, u250, u251, u252, u253, u254, u255, u256, u257, u258, u259, u260, u261, u262, u263, u264, u265, u266, u267, u268, u269, u270, u271, u272, u273], []⟩ wa := by
 by_cases h0 : xk = 0
 ·exact kind0 W wa g m mb lb q n j wh d r L its xk xn xc h0 pi pk ci ck ks HPa HQ HIT HPY HXN HKS HN HNN HJ u0 u1 u2 u3 u4 u5 u6 u7 u8 u9 u14 u15 u16 u17 u18 u20 u21 u22 u23 u24 u25 u26 u27 u28 u29 u30 u31 u32 u33 u34 u35 u36 u37 u38 u39 u40 u41 u42 u43 u44 u45 u46 u47 u48 u49 u50 u51 u52 u53 u54 u55 u56 u57 u58 u59 u60 u61 u62 u63 u64 u65 u66 u67 u68 u69 u70 u71 u72 u73 u74 u75 u76 u77 u78 u79 u80 u81 u82 u83 u84 u85 u86 u87 u88 u89 u90 u91 u92 u93 u94 u95 u96 u97 u98 u99 u100 u101 u102 u103 u104 u105 u106 u107 u108 u109 u110 u111 u112 u113 u114 u115 u117 u118 u119 u120 u121 u122 u123 u124 u125 u126 u127 u128 u129 u130 u131 u132 u133 u134 u135 u136 u137 u138 u139 u140 u141 u142 u143 u144 u145 u146 u147 u148 u149 u150 u151 u152 u153 u154 u155 u156 u157 u158 u159 u160 u161 u162 u163 u164 u165 u166 u167 u168 u169 u170 u171 u172 u173 u174 u175 u176 u177 u178 u179 u180 u181 u182 u183 u184 u185 u186 u187 u188 u189 u190 u191 u192 u193 u194 u195 u196 u197 u198 u199 u200 u201 u202 u203 u204 u205 u206 u207 u208 u209 u210 u211 u212 u213 u214 u215 u216 u217 u218 u219 u220 u221 u222 u223 u224 u225 u226 u227 u228 u229 u230 u231 u232 u233 u234 u235 u236 u237 u238 u239 u240 u241 u242 u243 u244 u245 u246 u247 u248 u249 u250 u251 u252 u253 u254 u255 u256 u257 u258 u259 u260 u261 u262 u263 u264 u265 u266 u267 u268 u269 u270 u271 u272 u273 sw hsw K Q HK
 by_cases h1 : xk = 1
 ·exact kind1 W wa g m mb lb q n j wh d r L its xk xn xc h1 pi pk ci ck ks HPa HQ HIT HPY HXN HKS HN HNN HJ u0 u1 u2 u3 u4 u5 u6 u7 u8 u9 u14 u15 u16 u17 u18 u20 u21 u22 u23 u24 u25 u26 u27 u28 u29 u30 u31 u32 u33 u34 u35 u36 u37 u38 u39 u40 u41 u42 u43 u44 u45 u46 u47 u48 u49 u50 u51 u52 u53 u54 u55 u56 u57 u58 u59 u60 u61 u62 u63 u64 u65 u66 u67 u68 u69 u70 u71 u72 u73 u74 u75 u76 u77 u78 u79 u80 u81 u82 u83 u84 u85 u86 u87 u88 u89 u90 u91 u92 u93 u94 u95 u96 u97 u98 u99 u100 u101 u102 u103 u104 u105 u106 u107 u108 u109 u110 u111 u112 u113 u114 u115 u117 u118 u119 u120 u121 u122 u123 u124 u125 u126 u127 u128 u129 u130 u131 u132 u133 u134 u135 u136 u137 u138 u139 u140 u141 u142 u143 u144 u145 u146 u147 u148 u149 u150 u151 u152 u153 u154 u155 u156 u157 u158 u159 u160 u161 u162 u163 u164 u165 u166 u167 u168 u169 u170 u171 u172 u173 u174 u175 u176 u177 u178 u179 u180 u181 u182 u183 u184 u185 u186 u187 u188 u189 u190 u191 u192 u193 u194 u195 u196 u197 u198 u199 u200 u201 u202 u203 u204 u205 u206 u207 u208 u209 u210 u211 u212 u213 u214 u215 u216 u217 u218 u219 u220 u221 u222 u223 u224 u225 u226 u227 u228 u229 u230 u231 u232 u233 u234 u235 u236 u237 u238 u239 u240 u241 u242 u243 u244 u245 u246 u247 u248 u249 u250 u251 u252 u253 u254 u255 u256 u257 u258 u259 u260 u261 u262 u263 u264 u265 u266 u267 u268 u269 u270 u271 u272 u273 sw hsw K Q HK
 by_cases h2 : xk = 2
 ·exact kind2 W wa g m mb lb q n j wh d r L its xk xn xc h2 pi pk ci ck ks HPa HQ HIT HPY HXN HKS HN HNN HJ u0 u1 u2 u3 u4 u5 u6 u7 u8 u9 u14 u15 u16 u17 u18 u20 u21 u22 u23 u24 u25 u26 u27 u28 u29 u30 u31 u32 u33 u34 u35 u36 u37 u38 u39 u40 u41 u42 u43 u44 u45 u46 u47 u48 u49 u50 u51 u52 u53 u54 u55 u56 u57 u58 u59 u60 u61 u62 u63 u64 u65 u66 u67 u68 u69 u70 u71 u72 u73 u74 u75 u76 u77 u78 u79 u80 u81 u82 u83 u84 u85 u86 u87 u88 u89 u90 u91 u92 u93 u94 u95 u96 u97 u98 u99 u100 u101 u102 u103 u104 u105 u106 u107 u108 u109 u110 u111 u112 u113 u114 u115 u117 u118 u119 u120 u121 u122 u123 u124 u125 u126 u127 u128 u129 u130 u131 u132 u133 u134 u135 u136 u137 u138 u139 u140 u141 u142 u143 u144 u145 u146 u147 u148 u149 u150 u151 u152 u153 u154 u155 u156 u157 u158 u159 u160 u161 u162 u163 u164 u165 u166 u167 u168 u169 u170 u171 u172 u173 u174 u175 u176 u177 u178 u179 u180 u181 u182 u183 u184 u185 u186 u187 u188 u189 u190 u191 u192 u193 u194 u195 u196 u197 u198 u199 u200 u201 u202 u203 u204 u205 u206 u207 u208 u209 u210 u211 u212 u213 u214 u215 u216 u217 u218 u219 u220 u221 u222 u223 u224 u225 u226 u227 u228 u229 u230 u231 u232 u233 u234 u235 u236 u237 u238 u239 u240 u241 u242 u243 u244 u245 u246 u247 u248 u249 u250 u251 u252 u253 u254 u255 u256 u257 u258 u259 u260 u261 u262 u263 u264 u265 u266 u267 u268 u269 u270 u271 u272 u273 sw hsw K Q HK
 by_cases h3 : xk = 3
 ·exact kind3 W wa g m mb lb q n j wh d r L its xk xn xc h3 pi pk ci ck ks HPa HQ HIT HPY HXN HKS HN HNN HJ u0 u1 u2 u3 u4 u5 u6 u7 u8 u9 u14 u15 u16 u17 u18 u20 u21 u22 u23 u24 u25 u26 u27 u28 u29 u30 u31 u32 u33 u34 u35 u36 u37 u38 u39 u40 u41 u42 u43 u44 u45 u46 u47 u48 u49 u50 u51 u52 u53 u54 u55 u56 u57 u58 u59 u60 u61 u62 u63 u64 u65 u66 u67 u68 u69 u70 u71 u72 u73 u74 u75 u76 u77 u78 u79 u80 u81 u82 u83 u84 u85 u86 u87 u88 u89 u90 u91 u92 u93 u94 u95 u96 u97 u98 u99 u100 u101 u102 u103 u104 u105 u106 u107 u108 u109 u110 u111 u112 u113 u114 u115 u117 u118 u119 u120 u121 u122 u123 u124 u125 u126 u127 u128 u129 u130 u131 u132 u133 u134 u135 u136 u137 u138 u139 u140 u141 u142 u143 u144 u145 u146 u147 u148 u149 u150 u151 u152 u153 u154 u155 u156 u157 u158 u159 u160 u161 u162 u163 u164 u165 u166 u167 u168 u169 u170 u171 u172 u173 u174 u175 u176 u177 u178 u179 u180 u181 u182 u183 u184 u185 u186 u187 u188 u189 u190 u191 u192 u193 u194 u195 u196 u197 u198 u199 u200 u201 u202 u203 u204 u205 u206 u207 u208 u209 u210 u211 u212 u213 u214 u215 u216 u217 u218 u219 u220 u221 u222 u223 u224 u225 u226 u227 u228 u229 u230 u231 u232 u233 u234 u235 u236 u237 u238 u239 u240 u241 u242 u243 u244 u245 u246 u247 u248 u249 u250 u251 u252 u253 u254 u255 u256 u257 u258 u259 u260 u261 u262 u263 u264 u265 u266 u267 u268 u269 u270 u271 u272 u273 sw hsw K Q HK
 by_cases h4 : xk = 4
 ·exact kind4 W wa g m mb lb q n j wh d r L its xk xn xc h4 pi pk ci ck ks HPa HQ HIT HPY HXN HKS HN HNN HJ u0 u1 u2 u3 u4 u5 u6 u7 u8 u9 u14 u15 u16 u17 u18 u20 u21 u22 u23 u24 u25 u26 u27 u28 u29 u30 u31 u32 u33 u34 u35 u36 u37 u38 u39 u40 u41 u42 u43 u44 u45 u46 u47 u48 u49 u50 u51 u52 u53 u54 u55 u56 u57 u58 u59 u60 u61 u62 u63 u64 u65 u66 u67 u68 u69 u70 u71 u72 u73 u74 u75 u76 u77 u78 u79 u80 u81 u82 u83 u84 u85 u86 u87 u88 u89 u90 u91 u92 u93 u94 u95 u96 u97 u98 u99 u100 u101 u102 u103 u104 u105 u106 u107 u108 u109 u110 u111 u112 u113 u114 u115 u117 u118 u119 u120 u121 u122 u123 u124 u125 u126 u127 u128 u129 u130 u131 u132 u133 u134 u135 u136 u137 u138 u139 u140 u141 u142 u143 u144 u145 u146 u147 u148 u149 u150 u151 u152 u153 u154 u155 u156 u157 u158 u159 u160 u161 u162 u163 u164 u165 u166 u167 u168 u169 u170 u171 u172 u173 u174 u175 u176 u177 u178 u179 u180 u181 u182 u183 u184 u185 u186 u187 u188 u189 u190 u191 u192 u193 u194 u195 u196 u197 u198 u199 u200 u201 u202 u203 u204 u205 u206 u207 u208 u209 u210 u211 u212 u213 u214 u215 u216 u217 u218 u219 u220 u221 u222 u223 u224 u225 u226 u227 u228 u229 u230 u231 u232 u233 u234 u235 u236 u237 u238 u239 u240 u241 u242 u243 u244 u245 u246 u247 u248 u249 u250 u251 u252 u253 u254 u255 u256 u257 u258 u259 u260 u261 u262 u263 u264 u265 u266 u267 u268 u269 u270 u271 u272 u273 sw hsw K Q HK
 by_cases h5 : xk = 5
 ·exact kind5 W wa g m mb lb q n j wh d r L its xk xn xc h5 pi pk ci ck ks HPa HQ HIT HPY HXN HKS HN HNN HJ u0 u1 u2 u3 u4 u5 u6 u7 u8 u9 u14 u15 u16 u17 u18 u20 u21 u22 u23 u24 u25 u26 u27 u28 u29 u30 u31 u32 u33 u34 u35 u36 u37 u38 u39 u40 u41 u42 u43 u44 u45 u46 u47 u48 u49 u50 u51 u52 u53 u54 u55 u56 u57 u58 u59 u60 u61 u62 u63 u64 u65 u66 u67 u68 u69 u70 u71 u72 u73 u74 u75 u76 u77 u78 u79 u80 u81 u82 u83 u84 u85 u86 u87 u88 u89 u90 u91 u92 u93 u94 u95 u96 u97 u98 u99 u100 u101 u102 u103 u104 u105 u106 u107 u108 u109 u110 u111 u112 u113 u114 u115 u117 u118 u119 u120 u121 u122 u123 u124 u125 u126 u127 u128 u129 u130 u131 u132 u133 u134 u135 u136 u137 u138 u139 u140 u141 u142 u143 u144 u145 u146 u147 u148 u149 u150 u151 u152 u153 u154 u155 u156 u157 u158 u159 u160 u161 u162 u163 u164 u165 u166 u167 u168 u169 u170 u171 u172 u173 u174 u175 u176 u177 u178 u179 u180 u181 u182 u183 u184 u185 u186 u187 u188 u189 u190 u191 u192 u193 u194 u195 u196 u197 u198 u199 u200 u201 u202 u203 u204 u205 u206 u207 u208 u209 u210 u211 u212 u213 u214 u215 u216 u217 u218 u219 u220 u221 u222 u223 u224 u225 u226 u227 u228 u229 u230 u231 u232 u233 u234 u235 u236 u237 u238 u239 u240 u241 u242 u243 u244 u245 u246 u247 u248 u249 u250 u251 u252 u253 u254 u255 u256 u257 u258 u259 u260 u261 u262 u263 u264 u265 u266 u267 u268 u269 u270 u271 u272 u273 sw hsw K Q HK
 exact kindx W wa g m mb lb q n j wh d r L its xk xn xc h0 h1 h2 h3 h4 h5 pi pk ci ck ks HPa HQ HIT HPY HXN HKS HN HNN HJ u0 u1 u2 u3 u4 u5 u6 u7 u8 u9 u14 u15 u16 u17 u18 u20 u21 u22 u23 u24 u25 u26 u27 u28 u29 u30 u31 u32 u33 u34 u35 u36 u37 u38 u39 u40 u41 u42 u43 u44 u45 u46 u47 u48 u49 u50 u51 u52 u53 u54 u55 u56 u57 u58 u59 u60 u61 u62 u63 u64 u65 u66 u67 u68 u69 u70 u71 u72 u73 u74 u75 u76 u77 u78 u79 u80 u81 u82 u83 u84 u85 u86 u87 u88 u89 u90 u91 u92 u93 u94 u95 u96 u97 u98 u99 u100 u101 u102 u103 u104 u105 u106 u107 u108 u109 u110 u111 u112 u113 u114 u115 u117 u118 u119 u120 u121 u122 u123 u124 u125 u126 u127 u128 u129 u130 u131 u132 u133 u134 u135 u136 u137 u138 u139 u140 u141 u142 u143 u144 u145 u146 u147 u148 u149 u150 u151 u152 u153 u154 u155 u156 u157 u158 u159 u160 u161 u162 u163 u164 u165 u166 u167 u168 u169 u170 u171 u172 u173 u174 u175 u176 u177 u178 u179 u180 u181 u182 u183 u184 u185 u186 u187 u188 u189 u190 u191 u192 u193 u194 u195 u196 u197 u198 u199 u200 u201 u202 u203 u204 u205 u206 u207 u208 u209 u210 u211 u212 u213 u214 u215 u216 u217 u218 u219 u220 u221 u222 u223 u224 u225 u226 u227 u228 u229 u230 u231 u232 u233 u234 u235 u236 u237 u238 u239 u240 u241 u242 u243 u244 u245 u246 u247 u248 u249 u250 u251 u252 u253 u254 u255 u256 u257 u258 u259 u260 u261 u262 u263 u264 u265 u266 u267 u268 u269 u270 u271 u272 u273 sw hsw K Q HK
end Txl
end Go.Proofs.YtchjncnolmiejaaGreat
