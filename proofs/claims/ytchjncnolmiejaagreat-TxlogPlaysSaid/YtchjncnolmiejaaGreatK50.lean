/- Several texts in one: TpK0, TpK1, TpK2, TpK3. -/
import Derived.Test.YtchjncnolmiejaaGreatK49
/- TxlogPlays' round. Written by gen_tpkinds.py. -/
namespace Go.Proofs.YtchjncnolmiejaaGreat
open Go.RowKit
namespace Txl
open Vd Rf Rs
open Sf (sMake sAppend sSwap rMake rAppend rSwap)
open Go.Maps
set_option maxRecDepth 100000 in
set_option maxHeartbeats 8000000 in
theorem kind0 (W wa : World) (g m mb lb q n j : Nat) (wh : Bool) (d : Dsk) (r : RDsk) (L : List Nat) (its : List (Value × List UInt8)) (xk xn xc : Int) (h0 : xk = 0) (pi pk : Option Addr) (ci ck : Nat) (ks : List Int) (HPa : Hid (Pair (q :: L) W wa g d m r (300 * (j + 1)) (100 * (j + 1)) lb mb n wh)) (HQ : Hid (Blk wa q 47 #[.int .i64 xk, .slice pi its.length ci, .int .i64 xn, .int .i64 xc, .slice pk ks.length ck])) (HIT : Hid (Row W (.slice pi its.length ci) (its.map (·.1)))) (HPY : Hid (∀ y ∈ its, Frm.payOk W y)) (HXN : Hid ((Lit.int .i64 xn).wf = true)) (HKS : Hid (Row W (.slice pk ks.length ck) (ks.map (Value.int .i64)))) (HN : Hid (d.nodes.length ≤ j + 2)) (HNN : Hid (n ≤ 1000000000 + j)) (HJ : Hid (j < 40)) (u0 u1 u2 u3 u4 u5 u6 u7 u8 u9 u14 u15 u16 u17 u18 u20 u21 u22 u23 u24 u25 u26 u27 u28 u29 u30 u31 u32 u33 u34 u35 u36 u37 u38 u39 u40 u41 u42 u43 u44 u45 u46 u47 u48 u49 u50 u51 u52 u53 u54 u55 u56 u57 u58 u59 u60 u61 u62 u63 u64 u65 u66 u67 u68 u69 u70 u71 u72 u73 u74 u75 u76 u77 u78 u79 u80 u81 u82 u83 u84 u85 u86 u87 u88 u89 u90 u91 u92 u93 u94 u95 u96 u97 u98 u99 u100 u101 u102 u103 u104 u105 u106 u107 u108 u109 u110 u111 u112 u113 u114 u115 u117 u118 u119 u120 u121 u122 u123 u124 u125 u126 u127 u128 u129 u130 u131 u132 u133 u134 u135 u136 u137 u138 u139 u140 u141 u142 u143 u144 u145 u146 u147 u148 u149 u150 u151 u152 u153 u154 u155 u156 u157 u158 u159 u160 u161 u162 u163 u164 u165 u166 u167 u168 u169 u170 u171 u172 u173 u174 u175 u176 u177 u178 u179 u180 u181 u182 u183 u184 u185 u186 u187 u188 u189 u190 u191 u192 u193 u194 u195 u196 u197 u198 u199 u200 u201 u202 u203 u204 u205 u206 u207 u208 u209 u210 u211 u212 u213 u214 u215 u216 u217 u218 u219 u220 u221 u222 u223 u224 u225 u226 u227 u228 u229 u230 u231 u232 u233 u234 u235 u236 u237 u238 u239 u240 u241 u242 u243 u244 u245 u246 u247 u248 u249 u250 u251 u252 u253 u254 u255 u256 u257 u258 u259 u260 u261 u262 u263 u264 u265 u266 u267 u268 u269 u270 u271 u272 u273 : Value) (sw : Code) (hsw : sw = at_ [true, true, true, true, true, true, true, true, true, true, true, true, false, true, false, false, true, false, false, true, false, true] (Tryz.f3.body.getD .skip)) (K : Act → World → Prop) (Q : Exit → Act → World → Prop) (HK : Hid (∀ (v13 v20 v21 v22 v23 v24 v25 v26 v27 v105 v106 v107 v108 v109 v110 v111 v112 v113 v114 v115 v116 v117 v118 v119 v120 v121 v122 v123 v124 v125 v126 v127 v128 v129 v130 v131 v132 v133 v134 v135 v136 v137 v138 v139 v140 v141 v142 v143 v144 v145 v146 v147 v148 v149 v150 v151 v152 v153 v154 v155 v156 v157 v158 v159 v160 v161 v162 v163 v164 v165 v166 v167 v168 v169 v170 v171 v172 v173 v174 v175 v176 v177 v178 v179 v180 v181 v182 v183 v184 v185 v186 v187 v188 v189 v190 v191 v192 v193 v194 v195 v196 v197 v198 v199 v200 v201 v202 v203 v204 v205 v206 v207 v208 v209 v210 v211 v212 v213 v214 v215 v216 v217 v218 v219 v220 v221 v222 v223 v224 v225 v226 v227 v228 v229 v230 v231 v232 v233 v234 v235 v236 v237 v238 v239 v240 v241 v242 v243 v244 v245 v246 v247 v248 v249 v250 v251 v252 v253 v254 v255 v256 v257 v258 v259 v260 v261 v262 v263 v264 v265 v266 v267 v268 v269 v270 v271 v272 v273 : Value) (wx : World), (∃ (L2 : List Nat) (lb2 n2 : Nat) (wh2 : Bool) (d2 : Dsk) (r2 : RDsk), v13 = .pointer (some ⟨lb2, 0, none⟩) ∧ Hid (Pair L2 W wx g d2 m r2 (300 * (j + 1 + 1)) (100 * (j + 1 + 1)) lb2 mb n2 wh2) ∧ Hid (d2.nodes.length ≤ j + 1 + 2) ∧ Hid (n2 ≤ 1000000000 + (j + 1))) → K ⟨#[u0, u1, u2, u3, u4, u5, u6, u7, u8, u9, .pointer (some ⟨g, 0, none⟩), .pointer (some ⟨m, 0, none⟩), .pointer (some ⟨mb, 0, none⟩), v13, u14, u15, u16, u17, u18, .pointer (some ⟨q, 0, none⟩), v20, v21, v22, v23, v24, v25, v26, v27, u28, u29, u30, u31, u32, u33, u34, u35, u36, u37, u38, u39, u40, u41, u42, u43, u44, u45, u46, u47, u48, u49, u50, u51, u52, u53, u54, u55, u56, u57, u58, u59, u60, u61, u62, u63, u64, u65, u66, u67, u68, u69, u70, u71, u72, u73, u74, u75, u76, u77, u78, u79, u80, u81, u82, u83, u84, u85, u86, u87, u88, u89, u90, u91, u92, u93, u94, u95, u96, u97, u98, u99, u100, u101, u102, u103, u104, v105, v106, v107, v108, v109, v110, v111, v112, v113, v114, v115, v116, v117, v118, v119, v120, v121, v122, v123, v124, v125, v126, v127, v128, v129, v130, v131, v132, v133, v134, v135, v136, v137, v138, v139, v140, v141, v142, v143, v144, v145, v146, v147, v148, v149, v150, v151, v152, v153, v154, v155, v156, v157, v158, v159, v160, v161, v162, v163, v164, v165, v166, v167, v168, v169, v170, v171, v172, v173, v174, v175, v176, v177, v178, v179, v180, v181, v182, v183, v184, v185, v186, v187, v188, v189, v190, v191, v192, v193, v194, v195, v196, v197, v198, v199, v200, v201, v202, v203, v204, v205, v206, v207, v208, v209, v210, v211, v212, v213, v214, v215, v216, v217, v218, v219, v220, v221, v222, v223, v224, v225, v226, v227, v228, v229, v230, v231, v232, v233, v234, v235, v236, v237, v238, v239, v240, v241, v242, v243, v244, v245, v246, v247, v248, v249, v250, v251, v252, v253, v254, v255, v256, v257, v258, v259, v260, v261, v262, v263, v264, v265, v266, v267, v268, v269, v270, v271, v272, v273], []⟩ wx)) : Code.wp Tryz.prog sw (Exit.then K Q) ⟨#[u0, u1, u2, u3, u4, u5, u6, u7, u8, u9, .pointer (some ⟨g, 0, none⟩), .pointer (some ⟨m, 0, none⟩), .pointer (some ⟨mb, 0, none⟩), .pointer (some ⟨lb, 0, none⟩), u14, u15, u16, u17, u18, .pointer (some ⟨q, 0, none⟩), u20, u21, u22, u23, u24, u25, u26, u27, u28, u29, u30, u31, u32, u33, u34, u35, u36, u37, u38, u39, u40, u41, u42, u43, u44, u45, u46, u47, u48, u49, u50, u51, u52, u53, u54, u55, u56, u57, u58, u59, u60, u61, u62, u63, u64, u65, u66, u67, u68, u69, u70, u71, u72, u73, u74, u75, u76, u77, u78, u79, u80, u81, u82, u83, u84, u85, u86, u87, u88, u89, u90, u91, u92, u93, u94, u95, u96, u97, u98, u99, u100, u101, u102, u103, u104, u105, u106, u107, u108, u109, u110, u111, u112, u113, u114, u115, .int .i64 xk, u117, u118, u119, u120, u121, u122, u123, u124, u125, u126, u127, u128, u129, u130, u131, u132, u133, u134, u135, u136, u137, u138, u139, u140, u141, u142, u143, u144, u145, u146, u147, u148, u149, u150, u151, u152, u153, u154, u155, u156, u157, u158, u159, u160, u161, u162, u163, u164, u165, u166, u167, u168, u169, u170, u171, u172, u173, u174, u175, u176, u177, u178, u179, u180, u181, u182, u183, u184, u185, u186, u187, u188, u189, u190, u191, u192, u193, u194, u195, u196, u197, u198, u199, u200, u201, u202, u203, u204, u205, u206, u207, u208, u209, u210, u211, u212, u213, u214, u215, u216, u217, u218, u219, u220, u221, u222, u223, u224, u225, u226, u227, u228, u229, u230, u231, u232, u233, u234, u235, u236, u237, u238, u239, u240, u241, u242, u243, u244, u245, u246, u247, u248, u249, u250, u251, u252, u253, u254, u255, u256, u257, u258, u259, u260, u261, u262, u263, u264, u265, u266, u267, u268, u269, u270, u271, u272, u273], []⟩ wa := by
 have HNI := Lib.hid (Sa.wf_in HXN.out)
 rw [hsw]
 dsimp only [at_, Tryz.f3, Option.getD]
 clear hsw
 subst h0
 have q1 : wa.cell? ⟨q, 1, none⟩ = some (.slice pi its.length ci) := by rw [HQ.out.cell]; rfl
 have HPD := Lib.hid (padd_any HPa.out (kb HJ.out 0 (by decide) (by decide)) (cb HJ.out 0 (by decide) (by decide)) (nb HNN.out HJ.out (by decide)) (.slice pi its.length ci) its HIT.out HPY.out)
 go_wp2_with fail
 refine HPD.out.mono ?_
 rintro e wb ⟨d', r', n', wh', rfl, hp, hn', hd'⟩
 have HPb := Lib.hid hp
 have HNb := Lib.hid hn'
 have HDb := Lib.hid hd'
 clear hp hn' hd' HPD q1
 go_wp2_with fail
 refine HK.out _ _ _ _ _ _ _ _ _ _ _ _ _ _ _ _ _ _ _ _ _ _ _ _ _ _ _ _ _ _ _ _ _ _ _ _ _ _ _ _ _ _ _ _ _ _ _ _ _ _ _ _ _ _ _ _ _ _ _ _ _ _ _ _ _ _ _ _ _ _ _ _ _ _ _ _ _ _ _ _ _ _ _ _ _ _ _ _ _ _ _ _ _ _ _ _ _ _ _ _ _ _ _ _ _ _ _ _ _ _ _ _ _ _ _ _ _ _ _ _ _ _ _ _ _ _ _ _ _ _ _ _ _ _ _ _ _ _ _ _ _ _ _ _ _ _ _ _ _ _ _ _ _ _ _ _ _ _ _ _ _ _ _ _ _ _ _ _ _ _ _ _ _ _ _ _ _ _ _ ?_
 go_light
 exact ⟨_, lb, n', wh', d', r', rfl, Lib.hid (HPb.out.more (by omega) (by omega)), Lib.hid (by have := HDb.out; have := HN.out; omega), Lib.hid (by have := HNb.out; have := HNN.out; omega)⟩
end Txl
end Go.Proofs.YtchjncnolmiejaaGreat

/- TxlogPlays' round. Written by gen_tpkinds.py. -/
namespace Go.Proofs.YtchjncnolmiejaaGreat
open Go.RowKit
namespace Txl
open Vd Rf Rs
open Sf (sMake sAppend sSwap rMake rAppend rSwap)
open Go.Maps
set_option maxRecDepth 100000 in
set_option maxHeartbeats 8000000 in
theorem kind1 (W wa : World) (g m mb lb q n j : Nat) (wh : Bool) (d : Dsk) (r : RDsk) (L : List Nat) (its : List (Value × List UInt8)) (xk xn xc : Int) (h1 : xk = 1) (pi pk : Option Addr) (ci ck : Nat) (ks : List Int) (HPa : Hid (Pair (q :: L) W wa g d m r (300 * (j + 1)) (100 * (j + 1)) lb mb n wh)) (HQ : Hid (Blk wa q 47 #[.int .i64 xk, .slice pi its.length ci, .int .i64 xn, .int .i64 xc, .slice pk ks.length ck])) (HIT : Hid (Row W (.slice pi its.length ci) (its.map (·.1)))) (HPY : Hid (∀ y ∈ its, Frm.payOk W y)) (HXN : Hid ((Lit.int .i64 xn).wf = true)) (HKS : Hid (Row W (.slice pk ks.length ck) (ks.map (Value.int .i64)))) (HN : Hid (d.nodes.length ≤ j + 2)) (HNN : Hid (n ≤ 1000000000 + j)) (HJ : Hid (j < 40)) (u0 u1 u2 u3 u4 u5 u6 u7 u8 u9 u14 u15 u16 u17 u18 u20 u21 u22 u23 u24 u25 u26 u27 u28 u29 u30 u31 u32 u33 u34 u35 u36 u37 u38 u39 u40 u41 u42 u43 u44 u45 u46 u47 u48 u49 u50 u51 u52 u53 u54 u55 u56 u57 u58 u59 u60 u61 u62 u63 u64 u65 u66 u67 u68 u69 u70 u71 u72 u73 u74 u75 u76 u77 u78 u79 u80 u81 u82 u83 u84 u85 u86 u87 u88 u89 u90 u91 u92 u93 u94 u95 u96 u97 u98 u99 u100 u101 u102 u103 u104 u105 u106 u107 u108 u109 u110 u111 u112 u113 u114 u115 u117 u118 u119 u120 u121 u122 u123 u124 u125 u126 u127 u128 u129 u130 u131 u132 u133 u134 u135 u136 u137 u138 u139 u140 u141 u142 u143 u144 u145 u146 u147 u148 u149 u150 u151 u152 u153 u154 u155 u156 u157 u158 u159 u160 u161 u162 u163 u164 u165 u166 u167 u168 u169 u170 u171 u172 u173 u174 u175 u176 u177 u178 u179 u180 u181 u182 u183 u184 u185 u186 u187 u188 u189 u190 u191 u192 u193 u194 u195 u196 u197 u198 u199 u200 u201 u202 u203 u204 u205 u206 u207 u208 u209 u210 u211 u212 u213 u214 u215 u216 u217 u218 u219 u220 u221 u222 u223 u224 u225 u226 u227 u228 u229 u230 u231 u232 u233 u234 u235 u236 u237 u238 u239 u240 u241 u242 u243 u244 u245 u246 u247 u248 u249 u250 u251 u252 u253 u254 u255 u256 u257 u258 u259 u260 u261 u262 u263 u264 u265 u266 u267 u268 u269 u270 u271 u272 u273 : Value) (sw : Code) (hsw : sw = at_ [true, true, true, true, true, true, true, true, true, true, true, true, false, true, false, false, true, false, false, true, false, true] (Tryz.f3.body.getD .skip)) (K : Act → World → Prop) (Q : Exit → Act → World → Prop) (HK : Hid (∀ (v13 v20 v21 v22 v23 v24 v25 v26 v27 v105 v106 v107 v108 v109 v110 v111 v112 v113 v114 v115 v116 v117 v118 v119 v120 v121 v122 v123 v124 v125 v126 v127 v128 v129 v130 v131 v132 v133 v134 v135 v136 v137 v138 v139 v140 v141 v142 v143 v144 v145 v146 v147 v148 v149 v150 v151 v152 v153 v154 v155 v156 v157 v158 v159 v160 v161 v162 v163 v164 v165 v166 v167 v168 v169 v170 v171 v172 v173 v174 v175 v176 v177 v178 v179 v180 v181 v182 v183 v184 v185 v186 v187 v188 v189 v190 v191 v192 v193 v194 v195 v196 v197 v198 v199 v200 v201 v202 v203 v204 v205 v206 v207 v208 v209 v210 v211 v212 v213 v214 v215 v216 v217 v218 v219 v220 v221 v222 v223 v224 v225 v226 v227 v228 v229 v230 v231 v232 v233 v234 v235 v236 v237 v238 v239 v240 v241 v242 v243 v244 v245 v246 v247 v248 v249 v250 v251 v252 v253 v254 v255 v256 v257 v258 v259 v260 v261 v262 v263 v264 v265 v266 v267 v268 v269 v270 v271 v272 v273 : Value) (wx : World), (∃ (L2 : List Nat) (lb2 n2 : Nat) (wh2 : Bool) (d2 : Dsk) (r2 : RDsk), v13 = .pointer (some ⟨lb2, 0, none⟩) ∧ Hid (Pair L2 W wx g d2 m r2 (300 * (j + 1 + 1)) (100 * (j + 1 + 1)) lb2 mb n2 wh2) ∧ Hid (d2.nodes.length ≤ j + 1 + 2) ∧ Hid (n2 ≤ 1000000000 + (j + 1))) → K ⟨#[u0, u1, u2, u3, u4, u5, u6, u7, u8, u9, .pointer (some ⟨g, 0, none⟩), .pointer (some ⟨m, 0, none⟩), .pointer (some ⟨mb, 0, none⟩), v13, u14, u15, u16, u17, u18, .pointer (some ⟨q, 0, none⟩), v20, v21, v22, v23, v24, v25, v26, v27, u28, u29, u30, u31, u32, u33, u34, u35, u36, u37, u38, u39, u40, u41, u42, u43, u44, u45, u46, u47, u48, u49, u50, u51, u52, u53, u54, u55, u56, u57, u58, u59, u60, u61, u62, u63, u64, u65, u66, u67, u68, u69, u70, u71, u72, u73, u74, u75, u76, u77, u78, u79, u80, u81, u82, u83, u84, u85, u86, u87, u88, u89, u90, u91, u92, u93, u94, u95, u96, u97, u98, u99, u100, u101, u102, u103, u104, v105, v106, v107, v108, v109, v110, v111, v112, v113, v114, v115, v116, v117, v118, v119, v120, v121, v122, v123, v124, v125, v126, v127, v128, v129, v130, v131, v132, v133, v134, v135, v136, v137, v138, v139, v140, v141, v142, v143, v144, v145, v146, v147, v148, v149, v150, v151, v152, v153, v154, v155, v156, v157, v158, v159, v160, v161, v162, v163, v164, v165, v166, v167, v168, v169, v170, v171, v172, v173, v174, v175, v176, v177, v178, v179, v180, v181, v182, v183, v184, v185, v186, v187, v188, v189, v190, v191, v192, v193, v194, v195, v196, v197, v198, v199, v200, v201, v202, v203, v204, v205, v206, v207, v208, v209, v210, v211, v212, v213, v214, v215, v216, v217, v218, v219, v220, v221, v222, v223, v224, v225, v226, v227, v228, v229, v230, v231, v232, v233, v234, v235, v236, v237, v238, v239, v240, v241, v242, v243, v244, v245, v246, v247, v248, v249, v250, v251, v252, v253, v254, v255, v256, v257, v258, v259, v260, v261, v262, v263, v264, v265, v266, v267, v268, v269, v270, v271, v272, v273], []⟩ wx)) : Code.wp Tryz.prog sw (Exit.then K Q) ⟨#[u0, u1, u2, u3, u4, u5, u6, u7, u8, u9, .pointer (some ⟨g, 0, none⟩), .pointer (some ⟨m, 0, none⟩), .pointer (some ⟨mb, 0, none⟩), .pointer (some ⟨lb, 0, none⟩), u14, u15, u16, u17, u18, .pointer (some ⟨q, 0, none⟩), u20, u21, u22, u23, u24, u25, u26, u27, u28, u29, u30, u31, u32, u33, u34, u35, u36, u37, u38, u39, u40, u41, u42, u43, u44, u45, u46, u47, u48, u49, u50, u51, u52, u53, u54, u55, u56, u57, u58, u59, u60, u61, u62, u63, u64, u65, u66, u67, u68, u69, u70, u71, u72, u73, u74, u75, u76, u77, u78, u79, u80, u81, u82, u83, u84, u85, u86, u87, u88, u89, u90, u91, u92, u93, u94, u95, u96, u97, u98, u99, u100, u101, u102, u103, u104, u105, u106, u107, u108, u109, u110, u111, u112, u113, u114, u115, .int .i64 xk, u117, u118, u119, u120, u121, u122, u123, u124, u125, u126, u127, u128, u129, u130, u131, u132, u133, u134, u135, u136, u137, u138, u139, u140, u141, u142, u143, u144, u145, u146, u147, u148, u149, u150, u151, u152, u153, u154, u155, u156, u157, u158, u159, u160, u161, u162, u163, u164, u165, u166, u167, u168, u169, u170, u171, u172, u173, u174, u175, u176, u177, u178, u179, u180, u181, u182, u183, u184, u185, u186, u187, u188, u189, u190, u191, u192, u193, u194, u195, u196, u197, u198, u199, u200, u201, u202, u203, u204, u205, u206, u207, u208, u209, u210, u211, u212, u213, u214, u215, u216, u217, u218, u219, u220, u221, u222, u223, u224, u225, u226, u227, u228, u229, u230, u231, u232, u233, u234, u235, u236, u237, u238, u239, u240, u241, u242, u243, u244, u245, u246, u247, u248, u249, u250, u251, u252, u253, u254, u255, u256, u257, u258, u259, u260, u261, u262, u263, u264, u265, u266, u267, u268, u269, u270, u271, u272, u273], []⟩ wa := by
 have HNI := Lib.hid (Sa.wf_in HXN.out)
 rw [hsw]
 dsimp only [at_, Tryz.f3, Option.getD]
 clear hsw
 subst h1
 have q1 : wa.cell? ⟨q, 1, none⟩ = some (.slice pi its.length ci) := by rw [HQ.out.cell]; rfl
 have HBY := Lib.hid (rtxBytes_any 1 (by decide) (.slice pi its.length ci) its wa (HIT.out.keeps HPa.out.two.kp) (fun y hy => (HPY.out y hy).keeps HPa.out.two.kp))
 have HTL := Lib.hid (Nat.le_trans (txL_len (n := 1) (items := its.map (·.2))) (by decide) : (txL 1 (its.map (·.2))).length ≤ 1000000000)
 have HRX : Hid (rotD d [120] n wh (its.map (·.2)) = if txE 1 (its.map (·.2)) ≠ 0 then ((d, n, wh), txE 1 (its.map (·.2))) else if (sSwap [120] (txL 1 (its.map (·.2))) d).2 = 0 then (((sSwap [120] (txL 1 (its.map (·.2))) d).1, 1, true), 0) else (((sSwap [120] (txL 1 (its.map (·.2))) d).1, n, wh), (sSwap [120] (txL 1 (its.map (·.2))) d).2)) := Lib.hid rfl
 have HRO := Lib.hid (fun (w2 : World) (L2 : List Nat) (r2 : RDsk) (k2 : Nat) (h2 : TwoAt L2 W w2 g d m r2 k2) (hk2 : k2 ≤ 89800) (hl : lb ∈ L2) (hb : Blk w2 lb 100 (logA g [120] n wh)) => rotate_two h2 hk2 hl HPa.out.w1 hb (by decide) (.slice pi its.length ci) its (HIT.out.keeps h2.kp) (fun y hy => (HPY.out y hy).keeps h2.kp))
 unfold Frm.RetSI at HBY
 generalize txL 1 (its.map (·.2)) = tl at *
 generalize txE 1 (its.map (·.2)) = te at *
 go_wp2_with fail
 refine HBY.out.mono ?_
 rintro e w1 ⟨tv, rfl, hown, hk1⟩
 obtain ⟨pt, ct, rfl, -, -⟩ := hown.row.formB
 have q1 := keep1 hk1 q1
 have HQ1 := Lib.hid (HQ.out.keeps hk1)
 have HP1 := Lib.hid (HPa.out.keeps hk1)
 obtain ⟨L1, hL1, h1, hst⟩ := TwoAt.own HPa.out.two hk1 hown
 have HL1 := Lib.hid hL1
 have HT1 := Lib.hid h1
 have HST := Lib.hid hst
 clear hown hk1 HBY hL1 h1 hst HPa HQ
 by_cases he : te = 0
 ·subst he
  have HRX2 := Lib.hid (HRX.out.trans (if_neg (by simp)))
  have HSW := Lib.hid (rsswap_two HT1.out (kb HJ.out 0 (by decide) (by decide)) [120] (by decide) HST.out HTL.out)
  have HSA := Lib.hid (Sf.swap_al [120] tl d r _ (cb HJ.out 10 (by decide) (by decide)) HP1.out.dr)
  have HGS := Lib.hid (Sf.grows_sSwap [120] tl d)
  generalize rSwap [120] tl r = qr at *
  generalize sSwap [120] tl d = qd at *
  obtain ⟨r3, e3⟩ := qr
  obtain ⟨d3, ed⟩ := qd
  simp only at HSW HRX2 HSA HGS
  obtain rfl : ed = e3 := HSA.out.1
  have HDR3 := Lib.hid HSA.out.2
  clear HSA HRX
  go_wp2_with fail
  refine HSW.out.mono ?_
  rintro e w2 ⟨rfl, h2, hm2⟩
  have HT2 := Lib.hid (h2.drop HL1.out)
  have HMM := Lib.hid (mods_less HL1.out hm2)
  have HLB := Lib.hid (HP1.out.log.mods HMM.out (fun hy => hy.2 HP1.out.l1))
  have HMB := Lib.hid (HP1.out.mod.mods HMM.out (fun hy => hy.2 HP1.out.l2))
  have HQ2 := Lib.hid (HQ1.out.mods HMM.out (fun hy => hy.2 (List.mem_cons_self ..)))
  have q1 : w2.cell? ⟨q, 1, none⟩ = some (.slice pi its.length ci) := by rw [HQ2.out.cell]; rfl
  have HRT := Lib.hid (HRO.out w2 _ r3 _ HT2.out (kb HJ.out 40 (by decide) (by decide)) HP1.out.l1 HLB.out)
  unfold RotTwo at HRT
  have hee : (ed != ed) = false := by simp
  clear h2 hm2 HSW HST HT1 HRO HT2
  by_cases h0 : ed = 0
  ·subst h0
   rw [HRX2.out.trans (if_pos rfl)] at HRT
   go_wp2_with fail
   refine HRT.out.mono ?_
   rintro e w3 ⟨rfl, h3, hb3, hm3⟩
   have H3 := Lib.hid h3
   have HB3 := Lib.hid hb3
   have HM3 := Lib.hid (HMB.out.mods hm3 (fun hy => hy.2.elim (fun hh => hh HP1.out.l2) (fun e => HP1.out.ne e.symm)))
   have hc1 : w3.cell? ⟨mb, 1, none⟩ = some (.int .i64 (n : Int)) := by rw [HM3.out.cell]; rfl
   have hc2 : w3.cell? ⟨mb, 2, none⟩ = some (.bool wh) := by rw [HM3.out.cell]; rfl
   have hz1 : w3.frozen? ⟨mb, 1, none⟩ = false := HM3.out.frozen _
   have hz2 : w3.frozen? ⟨mb, 2, none⟩ = false := HM3.out.frozen _
   clear h3 hb3 hm3 HRT q1
   go_wp2_with fail
   refine HK.out _ _ _ _ _ _ _ _ _ _ _ _ _ _ _ _ _ _ _ _ _ _ _ _ _ _ _ _ _ _ _ _ _ _ _ _ _ _ _ _ _ _ _ _ _ _ _ _ _ _ _ _ _ _ _ _ _ _ _ _ _ _ _ _ _ _ _ _ _ _ _ _ _ _ _ _ _ _ _ _ _ _ _ _ _ _ _ _ _ _ _ _ _ _ _ _ _ _ _ _ _ _ _ _ _ _ _ _ _ _ _ _ _ _ _ _ _ _ _ _ _ _ _ _ _ _ _ _ _ _ _ _ _ _ _ _ _ _ _ _ _ _ _ _ _ _ _ _ _ _ _ _ _ _ _ _ _ _ _ _ _ _ _ _ _ _ _ _ _ _ _ _ _ _ _ _ _ _ _ ?_
   go_light
   refine ⟨_, lb, 1, true, d3, r3, rfl, Lib.hid ⟨(TwoAt.mine (TwoAt.mine H3.out HP1.out.l2 _ HP1.out.w2) HP1.out.l2 _ HP1.out.w2).more (by omega), HDR3.out.more (by omega), (HB3.out.far (p := ⟨mb, 1, none⟩) HP1.out.ne _).far (p := ⟨mb, 2, none⟩) HP1.out.ne _, ?_, HP1.out.l1, HP1.out.l2, HP1.out.w1, HP1.out.w2⟩, Lib.hid (by have := HGS.out; have := HN.out; omega), Lib.hid (by omega)⟩
   exact (HM3.out.set_ 1 (.int .i64 1)).set_ 2 (.bool true)
  ·rw [HRX2.out.trans (if_neg h0)] at HRT
   have h0' : (ed == 0) = false := by simp [h0]
   clear h0
   go_wp2_with fail
   refine HRT.out.mono ?_
   rintro e w3 ⟨rfl, h3, hb3, hm3⟩
   have H3 := Lib.hid h3
   have HB3 := Lib.hid hb3
   have HM3 := Lib.hid (HMB.out.mods hm3 (fun hy => hy.2.elim (fun hh => hh HP1.out.l2) (fun e => HP1.out.ne e.symm)))
   clear h3 hb3 hm3 HRT q1
   go_wp2_with fail
   refine HK.out _ _ _ _ _ _ _ _ _ _ _ _ _ _ _ _ _ _ _ _ _ _ _ _ _ _ _ _ _ _ _ _ _ _ _ _ _ _ _ _ _ _ _ _ _ _ _ _ _ _ _ _ _ _ _ _ _ _ _ _ _ _ _ _ _ _ _ _ _ _ _ _ _ _ _ _ _ _ _ _ _ _ _ _ _ _ _ _ _ _ _ _ _ _ _ _ _ _ _ _ _ _ _ _ _ _ _ _ _ _ _ _ _ _ _ _ _ _ _ _ _ _ _ _ _ _ _ _ _ _ _ _ _ _ _ _ _ _ _ _ _ _ _ _ _ _ _ _ _ _ _ _ _ _ _ _ _ _ _ _ _ _ _ _ _ _ _ _ _ _ _ _ _ _ _ _ _ _ _ ?_
   go_light
   exact ⟨_, lb, n, wh, d3, r3, rfl, Lib.hid ⟨H3.out.more (by omega), HDR3.out.more (by omega), HB3.out, HM3.out, HP1.out.l1, HP1.out.l2, HP1.out.w1, HP1.out.w2⟩, Lib.hid (by have := HGS.out; have := HN.out; omega), Lib.hid (by have := HNN.out; omega)⟩
 ·have HRX2 := Lib.hid (HRX.out.trans (if_pos he))
  have he0 : (te == 0) = false := by simp [he]
  have hee : (te != te) = false := by simp
  have HRT := Lib.hid (HRO.out w1 _ r _ HP1.out.two (kb HJ.out 0 (by decide) (by decide)) HP1.out.l1 HP1.out.log)
  unfold RotTwo at HRT
  rw [HRX2.out] at HRT
  clear he HRX HRO
  go_wp2_with fail
  refine HRT.out.mono ?_
  rintro e w3 ⟨rfl, h3, hb3, hm3⟩
  have H3 := Lib.hid h3
  have HB3 := Lib.hid hb3
  have HM3 := Lib.hid (HP1.out.mod.mods hm3 (fun hy => hy.2.elim (fun hh => hh HP1.out.l2) (fun e => HP1.out.ne e.symm)))
  clear h3 hb3 hm3 HRT q1
  go_wp2_with fail
  refine HK.out _ _ _ _ _ _ _ _ _ _ _ _ _ _ _ _ _ _ _ _ _ _ _ _ _ _ _ _ _ _ _ _ _ _ _ _ _ _ _ _ _ _ _ _ _ _ _ _ _ _ _ _ _ _ _ _ _ _ _ _ _ _ _ _ _ _ _ _ _ _ _ _ _ _ _ _ _ _ _ _ _ _ _ _ _ _ _ _ _ _ _ _ _ _ _ _ _ _ _ _ _ _ _ _ _ _ _ _ _ _ _ _ _ _ _ _ _ _ _ _ _ _ _ _ _ _ _ _ _ _ _ _ _ _ _ _ _ _ _ _ _ _ _ _ _ _ _ _ _ _ _ _ _ _ _ _ _ _ _ _ _ _ _ _ _ _ _ _ _ _ _ _ _ _ _ _ _ _ _ ?_
  go_light
  exact ⟨_, lb, n, wh, d, r, rfl, Lib.hid ⟨H3.out.more (by omega), HP1.out.dr.more (by omega), HB3.out, HM3.out, HP1.out.l1, HP1.out.l2, HP1.out.w1, HP1.out.w2⟩, Lib.hid (by have := HN.out; omega), Lib.hid (by have := HNN.out; omega)⟩
end Txl
end Go.Proofs.YtchjncnolmiejaaGreat

/- TxlogPlays' round. Written by gen_tpkinds.py. -/
namespace Go.Proofs.YtchjncnolmiejaaGreat
open Go.RowKit
namespace Txl
open Vd Rf Rs
open Sf (sMake sAppend sSwap rMake rAppend rSwap)
open Go.Maps
set_option maxRecDepth 100000 in
set_option maxHeartbeats 8000000 in
theorem kind2 (W wa : World) (g m mb lb q n j : Nat) (wh : Bool) (d : Dsk) (r : RDsk) (L : List Nat) (its : List (Value × List UInt8)) (xk xn xc : Int) (h2 : xk = 2) (pi pk : Option Addr) (ci ck : Nat) (ks : List Int) (HPa : Hid (Pair (q :: L) W wa g d m r (300 * (j + 1)) (100 * (j + 1)) lb mb n wh)) (HQ : Hid (Blk wa q 47 #[.int .i64 xk, .slice pi its.length ci, .int .i64 xn, .int .i64 xc, .slice pk ks.length ck])) (HIT : Hid (Row W (.slice pi its.length ci) (its.map (·.1)))) (HPY : Hid (∀ y ∈ its, Frm.payOk W y)) (HXN : Hid ((Lit.int .i64 xn).wf = true)) (HKS : Hid (Row W (.slice pk ks.length ck) (ks.map (Value.int .i64)))) (HN : Hid (d.nodes.length ≤ j + 2)) (HNN : Hid (n ≤ 1000000000 + j)) (HJ : Hid (j < 40)) (u0 u1 u2 u3 u4 u5 u6 u7 u8 u9 u14 u15 u16 u17 u18 u20 u21 u22 u23 u24 u25 u26 u27 u28 u29 u30 u31 u32 u33 u34 u35 u36 u37 u38 u39 u40 u41 u42 u43 u44 u45 u46 u47 u48 u49 u50 u51 u52 u53 u54 u55 u56 u57 u58 u59 u60 u61 u62 u63 u64 u65 u66 u67 u68 u69 u70 u71 u72 u73 u74 u75 u76 u77 u78 u79 u80 u81 u82 u83 u84 u85 u86 u87 u88 u89 u90 u91 u92 u93 u94 u95 u96 u97 u98 u99 u100 u101 u102 u103 u104 u105 u106 u107 u108 u109 u110 u111 u112 u113 u114 u115 u117 u118 u119 u120 u121 u122 u123 u124 u125 u126 u127 u128 u129 u130 u131 u132 u133 u134 u135 u136 u137 u138 u139 u140 u141 u142 u143 u144 u145 u146 u147 u148 u149 u150 u151 u152 u153 u154 u155 u156 u157 u158 u159 u160 u161 u162 u163 u164 u165 u166 u167 u168 u169 u170 u171 u172 u173 u174 u175 u176 u177 u178 u179 u180 u181 u182 u183 u184 u185 u186 u187 u188 u189 u190 u191 u192 u193 u194 u195 u196 u197 u198 u199 u200 u201 u202 u203 u204 u205 u206 u207 u208 u209 u210 u211 u212 u213 u214 u215 u216 u217 u218 u219 u220 u221 u222 u223 u224 u225 u226 u227 u228 u229 u230 u231 u232 u233 u234 u235 u236 u237 u238 u239 u240 u241 u242 u243 u244 u245 u246 u247 u248 u249 u250 u251 u252 u253 u254 u255 u256 u257 u258 u259 u260 u261 u262 u263 u264 u265 u266 u267 u268 u269 u270 u271 u272 u273 : Value) (sw : Code) (hsw : sw = at_ [true, true, true, true, true, true, true, true, true, true, true, true, false, true, false, false, true, false, false, true, false, true] (Tryz.f3.body.getD .skip)) (K : Act → World → Prop) (Q : Exit → Act → World → Prop) (HK : Hid (∀ (v13 v20 v21 v22 v23 v24 v25 v26 v27 v105 v106 v107 v108 v109 v110 v111 v112 v113 v114 v115 v116 v117 v118 v119 v120 v121 v122 v123 v124 v125 v126 v127 v128 v129 v130 v131 v132 v133 v134 v135 v136 v137 v138 v139 v140 v141 v142 v143 v144 v145 v146 v147 v148 v149 v150 v151 v152 v153 v154 v155 v156 v157 v158 v159 v160 v161 v162 v163 v164 v165 v166 v167 v168 v169 v170 v171 v172 v173 v174 v175 v176 v177 v178 v179 v180 v181 v182 v183 v184 v185 v186 v187 v188 v189 v190 v191 v192 v193 v194 v195 v196 v197 v198 v199 v200 v201 v202 v203 v204 v205 v206 v207 v208 v209 v210 v211 v212 v213 v214 v215 v216 v217 v218 v219 v220 v221 v222 v223 v224 v225 v226 v227 v228 v229 v230 v231 v232 v233 v234 v235 v236 v237 v238 v239 v240 v241 v242 v243 v244 v245 v246 v247 v248 v249 v250 v251 v252 v253 v254 v255 v256 v257 v258 v259 v260 v261 v262 v263 v264 v265 v266 v267 v268 v269 v270 v271 v272 v273 : Value) (wx : World), (∃ (L2 : List Nat) (lb2 n2 : Nat) (wh2 : Bool) (d2 : Dsk) (r2 : RDsk), v13 = .pointer (some ⟨lb2, 0, none⟩) ∧ Hid (Pair L2 W wx g d2 m r2 (300 * (j + 1 + 1)) (100 * (j + 1 + 1)) lb2 mb n2 wh2) ∧ Hid (d2.nodes.length ≤ j + 1 + 2) ∧ Hid (n2 ≤ 1000000000 + (j + 1))) → K ⟨#[u0, u1, u2, u3, u4, u5, u6, u7, u8, u9, .pointer (some ⟨g, 0, none⟩), .pointer (some ⟨m, 0, none⟩), .pointer (some ⟨mb, 0, none⟩), v13, u14, u15, u16, u17, u18, .pointer (some ⟨q, 0, none⟩), v20, v21, v22, v23, v24, v25, v26, v27, u28, u29, u30, u31, u32, u33, u34, u35, u36, u37, u38, u39, u40, u41, u42, u43, u44, u45, u46, u47, u48, u49, u50, u51, u52, u53, u54, u55, u56, u57, u58, u59, u60, u61, u62, u63, u64, u65, u66, u67, u68, u69, u70, u71, u72, u73, u74, u75, u76, u77, u78, u79, u80, u81, u82, u83, u84, u85, u86, u87, u88, u89, u90, u91, u92, u93, u94, u95, u96, u97, u98, u99, u100, u101, u102, u103, u104, v105, v106, v107, v108, v109, v110, v111, v112, v113, v114, v115, v116, v117, v118, v119, v120, v121, v122, v123, v124, v125, v126, v127, v128, v129, v130, v131, v132, v133, v134, v135, v136, v137, v138, v139, v140, v141, v142, v143, v144, v145, v146, v147, v148, v149, v150, v151, v152, v153, v154, v155, v156, v157, v158, v159, v160, v161, v162, v163, v164, v165, v166, v167, v168, v169, v170, v171, v172, v173, v174, v175, v176, v177, v178, v179, v180, v181, v182, v183, v184, v185, v186, v187, v188, v189, v190, v191, v192, v193, v194, v195, v196, v197, v198, v199, v200, v201, v202, v203, v204, v205, v206, v207, v208, v209, v210, v211, v212, v213, v214, v215, v216, v217, v218, v219, v220, v221, v222, v223, v224, v225, v226, v227, v228, v229, v230, v231, v232, v233, v234, v235, v236, v237, v238, v239, v240, v241, v242, v243, v244, v245, v246, v247, v248, v249, v250, v251, v252, v253, v254, v255, v256, v257, v258, v259, v260, v261, v262, v263, v264, v265, v266, v267, v268, v269, v270, v271, v272, v273], []⟩ wx)) : Code.wp Tryz.prog sw (Exit.then K Q) ⟨#[u0, u1, u2, u3, u4, u5, u6, u7, u8, u9, .pointer (some ⟨g, 0, none⟩), .pointer (some ⟨m, 0, none⟩), .pointer (some ⟨mb, 0, none⟩), .pointer (some ⟨lb, 0, none⟩), u14, u15, u16, u17, u18, .pointer (some ⟨q, 0, none⟩), u20, u21, u22, u23, u24, u25, u26, u27, u28, u29, u30, u31, u32, u33, u34, u35, u36, u37, u38, u39, u40, u41, u42, u43, u44, u45, u46, u47, u48, u49, u50, u51, u52, u53, u54, u55, u56, u57, u58, u59, u60, u61, u62, u63, u64, u65, u66, u67, u68, u69, u70, u71, u72, u73, u74, u75, u76, u77, u78, u79, u80, u81, u82, u83, u84, u85, u86, u87, u88, u89, u90, u91, u92, u93, u94, u95, u96, u97, u98, u99, u100, u101, u102, u103, u104, u105, u106, u107, u108, u109, u110, u111, u112, u113, u114, u115, .int .i64 xk, u117, u118, u119, u120, u121, u122, u123, u124, u125, u126, u127, u128, u129, u130, u131, u132, u133, u134, u135, u136, u137, u138, u139, u140, u141, u142, u143, u144, u145, u146, u147, u148, u149, u150, u151, u152, u153, u154, u155, u156, u157, u158, u159, u160, u161, u162, u163, u164, u165, u166, u167, u168, u169, u170, u171, u172, u173, u174, u175, u176, u177, u178, u179, u180, u181, u182, u183, u184, u185, u186, u187, u188, u189, u190, u191, u192, u193, u194, u195, u196, u197, u198, u199, u200, u201, u202, u203, u204, u205, u206, u207, u208, u209, u210, u211, u212, u213, u214, u215, u216, u217, u218, u219, u220, u221, u222, u223, u224, u225, u226, u227, u228, u229, u230, u231, u232, u233, u234, u235, u236, u237, u238, u239, u240, u241, u242, u243, u244, u245, u246, u247, u248, u249, u250, u251, u252, u253, u254, u255, u256, u257, u258, u259, u260, u261, u262, u263, u264, u265, u266, u267, u268, u269, u270, u271, u272, u273], []⟩ wa := by
 have HNI := Lib.hid (Sa.wf_in HXN.out)
 rw [hsw]
 dsimp only [at_, Tryz.f3, Option.getD]
 clear hsw
 subst h2
 have q2 : wa.cell? ⟨q, 2, none⟩ = some (.int .i64 xn) := by rw [HQ.out.cell]; rfl
 have q3 : wa.cell? ⟨q, 3, none⟩ = some (.int .i64 xc) := by rw [HQ.out.cell]; rfl
 have HDF := Lib.hid (dr_fail HPa.out.dr xn xc (cb HJ.out 0 (by decide) (by decide)))
 go_wp2_with fail
 refine (fail_two HPa.out.two xn xc).mono ?_
 rintro e y1 ⟨rfl, h2, hm2⟩
 have HT := Lib.hid h2
 clear q2 q3
 have HQ3 := Lib.hid (HQ.out.mods hm2 (fun hy => hy.2 (List.mem_cons_self ..)))
 have HLB := Lib.hid (HPa.out.log.mods hm2 (fun hy => hy.2 HPa.out.l1))
 have HMB := Lib.hid (HPa.out.mod.mods hm2 (fun hy => hy.2 HPa.out.l2))
 obtain ⟨fv, nv, sv, wv, hB⟩ := HT.out.counter
 have hcO : y1.cell? ⟨m, 7, none⟩ = some (.int .i64 r.fail) := by rw [hB.cell]; rfl
 have hzO : y1.frozen? ⟨m, 7, none⟩ = false := hB.frozen _
 have q2 : y1.cell? ⟨q, 2, none⟩ = some (.int .i64 xn) := by rw [HQ3.out.cell]; rfl
 have q3 : y1.cell? ⟨q, 3, none⟩ = some (.int .i64 xc) := by rw [HQ3.out.cell]; rfl
 clear hB h2 hm2
 go_upto_region 36 with fail
 have HFL := Lib.hid (failing_r (w := y1) xn xc)
 go_wp2_with fail
 refine HFL.out.mono ?_
 rintro e y2 ⟨rfl, rfl⟩
 have HPu := Lib.hid (HT.out.put (o := 7) (v := .int .i64 (failingR xn xc)) (fail := failingR xn xc) (crash := r.crash) (err := r.err) (fun _ _ _ _ => rfl) (Sa.failingR_in HNI.out) (Sa.traps HT.out).2)
 clear HFL
 go_upto_region 37 with fail
 have HTP := Lib.hid HPu.out.1
 have HQ4 := Lib.hid (HQ3.out.mods HPu.out.2 (fun hy => hy.2 (List.mem_cons_self ..)))
 have HLB2 := Lib.hid (HLB.out.mods HPu.out.2 (fun hy => hy.2 HPa.out.l1))
 have HMB2 := Lib.hid (HMB.out.mods HPu.out.2 (fun hy => hy.2 HPa.out.l2))
 clear HPu hcO hzO q2 q3 HT
 generalize World.setCell _ ⟨m, 7, none⟩ _ = y3 at *
 obtain ⟨fv, nv, sv, wv, hB⟩ := HTP.out.counter
 have hcO : y3.cell? ⟨m, 9, none⟩ = some (.int .i64 r.err) := by rw [hB.cell]; rfl
 have hzO : y3.frozen? ⟨m, 9, none⟩ = false := hB.frozen _
 have q3 : y3.cell? ⟨q, 3, none⟩ = some (.int .i64 xc) := by rw [HQ4.out.cell]; rfl
 clear hB
 have HP2 := Lib.hid (HTP.out.put (o := 9) (v := .int .i64 xc) (fail := failingR xn xc) (crash := r.crash) (err := xc) (fun _ _ _ _ => rfl) (Sa.failingR_in HNI.out) (Sa.traps HTP.out).2)
 go_wp2_with fail
 refine HK.out _ _ _ _ _ _ _ _ _ _ _ _ _ _ _ _ _ _ _ _ _ _ _ _ _ _ _ _ _ _ _ _ _ _ _ _ _ _ _ _ _ _ _ _ _ _ _ _ _ _ _ _ _ _ _ _ _ _ _ _ _ _ _ _ _ _ _ _ _ _ _ _ _ _ _ _ _ _ _ _ _ _ _ _ _ _ _ _ _ _ _ _ _ _ _ _ _ _ _ _ _ _ _ _ _ _ _ _ _ _ _ _ _ _ _ _ _ _ _ _ _ _ _ _ _ _ _ _ _ _ _ _ _ _ _ _ _ _ _ _ _ _ _ _ _ _ _ _ _ _ _ _ _ _ _ _ _ _ _ _ _ _ _ _ _ _ _ _ _ _ _ _ _ _ _ _ _ _ _ ?_
 go_light
 exact ⟨_, lb, n, wh, _, _, rfl, Lib.hid ⟨HP2.out.1.more (by omega), HDF.out.more (by omega), HLB2.out.mods HP2.out.2 (fun hy => hy.2 HPa.out.l1), HMB2.out.mods HP2.out.2 (fun hy => hy.2 HPa.out.l2), HPa.out.l1, HPa.out.l2, HPa.out.w1, HPa.out.w2⟩, Lib.hid (by have := HN.out; show d.nodes.length ≤ _; omega), Lib.hid (by have := HNN.out; omega)⟩
end Txl
end Go.Proofs.YtchjncnolmiejaaGreat

/- TxlogPlays' round. Written by gen_tpkinds.py. -/
namespace Go.Proofs.YtchjncnolmiejaaGreat
open Go.RowKit
namespace Txl
open Vd Rf Rs
open Sf (sMake sAppend sSwap rMake rAppend rSwap)
open Go.Maps
set_option maxRecDepth 100000 in
set_option maxHeartbeats 8000000 in
theorem kind3 (W wa : World) (g m mb lb q n j : Nat) (wh : Bool) (d : Dsk) (r : RDsk) (L : List Nat) (its : List (Value × List UInt8)) (xk xn xc : Int) (h3 : xk = 3) (pi pk : Option Addr) (ci ck : Nat) (ks : List Int) (HPa : Hid (Pair (q :: L) W wa g d m r (300 * (j + 1)) (100 * (j + 1)) lb mb n wh)) (HQ : Hid (Blk wa q 47 #[.int .i64 xk, .slice pi its.length ci, .int .i64 xn, .int .i64 xc, .slice pk ks.length ck])) (HIT : Hid (Row W (.slice pi its.length ci) (its.map (·.1)))) (HPY : Hid (∀ y ∈ its, Frm.payOk W y)) (HXN : Hid ((Lit.int .i64 xn).wf = true)) (HKS : Hid (Row W (.slice pk ks.length ck) (ks.map (Value.int .i64)))) (HN : Hid (d.nodes.length ≤ j + 2)) (HNN : Hid (n ≤ 1000000000 + j)) (HJ : Hid (j < 40)) (u0 u1 u2 u3 u4 u5 u6 u7 u8 u9 u14 u15 u16 u17 u18 u20 u21 u22 u23 u24 u25 u26 u27 u28 u29 u30 u31 u32 u33 u34 u35 u36 u37 u38 u39 u40 u41 u42 u43 u44 u45 u46 u47 u48 u49 u50 u51 u52 u53 u54 u55 u56 u57 u58 u59 u60 u61 u62 u63 u64 u65 u66 u67 u68 u69 u70 u71 u72 u73 u74 u75 u76 u77 u78 u79 u80 u81 u82 u83 u84 u85 u86 u87 u88 u89 u90 u91 u92 u93 u94 u95 u96 u97 u98 u99 u100 u101 u102 u103 u104 u105 u106 u107 u108 u109 u110 u111 u112 u113 u114 u115 u117 u118 u119 u120 u121 u122 u123 u124 u125 u126 u127 u128 u129 u130 u131 u132 u133 u134 u135 u136 u137 u138 u139 u140 u141 u142 u143 u144 u145 u146 u147 u148 u149 u150 u151 u152 u153 u154 u155 u156 u157 u158 u159 u160 u161 u162 u163 u164 u165 u166 u167 u168 u169 u170 u171 u172 u173 u174 u175 u176 u177 u178 u179 u180 u181 u182 u183 u184 u185 u186 u187 u188 u189 u190 u191 u192 u193 u194 u195 u196 u197 u198 u199 u200 u201 u202 u203 u204 u205 u206 u207 u208 u209 u210 u211 u212 u213 u214 u215 u216 u217 u218 u219 u220 u221 u222 u223 u224 u225 u226 u227 u228 u229 u230 u231 u232 u233 u234 u235 u236 u237 u238 u239 u240 u241 u242 u243 u244 u245 u246 u247 u248 u249 u250 u251 u252 u253 u254 u255 u256 u257 u258 u259 u260 u261 u262 u263 u264 u265 u266 u267 u268 u269 u270 u271 u272 u273 : Value) (sw : Code) (hsw : sw = at_ [true, true, true, true, true, true, true, true, true, true, true, true, false, true, false, false, true, false, false, true, false, true] (Tryz.f3.body.getD .skip)) (K : Act → World → Prop) (Q : Exit → Act → World → Prop) (HK : Hid (∀ (v13 v20 v21 v22 v23 v24 v25 v26 v27 v105 v106 v107 v108 v109 v110 v111 v112 v113 v114 v115 v116 v117 v118 v119 v120 v121 v122 v123 v124 v125 v126 v127 v128 v129 v130 v131 v132 v133 v134 v135 v136 v137 v138 v139 v140 v141 v142 v143 v144 v145 v146 v147 v148 v149 v150 v151 v152 v153 v154 v155 v156 v157 v158 v159 v160 v161 v162 v163 v164 v165 v166 v167 v168 v169 v170 v171 v172 v173 v174 v175 v176 v177 v178 v179 v180 v181 v182 v183 v184 v185 v186 v187 v188 v189 v190 v191 v192 v193 v194 v195 v196 v197 v198 v199 v200 v201 v202 v203 v204 v205 v206 v207 v208 v209 v210 v211 v212 v213 v214 v215 v216 v217 v218 v219 v220 v221 v222 v223 v224 v225 v226 v227 v228 v229 v230 v231 v232 v233 v234 v235 v236 v237 v238 v239 v240 v241 v242 v243 v244 v245 v246 v247 v248 v249 v250 v251 v252 v253 v254 v255 v256 v257 v258 v259 v260 v261 v262 v263 v264 v265 v266 v267 v268 v269 v270 v271 v272 v273 : Value) (wx : World), (∃ (L2 : List Nat) (lb2 n2 : Nat) (wh2 : Bool) (d2 : Dsk) (r2 : RDsk), v13 = .pointer (some ⟨lb2, 0, none⟩) ∧ Hid (Pair L2 W wx g d2 m r2 (300 * (j + 1 + 1)) (100 * (j + 1 + 1)) lb2 mb n2 wh2) ∧ Hid (d2.nodes.length ≤ j + 1 + 2) ∧ Hid (n2 ≤ 1000000000 + (j + 1))) → K ⟨#[u0, u1, u2, u3, u4, u5, u6, u7, u8, u9, .pointer (some ⟨g, 0, none⟩), .pointer (some ⟨m, 0, none⟩), .pointer (some ⟨mb, 0, none⟩), v13, u14, u15, u16, u17, u18, .pointer (some ⟨q, 0, none⟩), v20, v21, v22, v23, v24, v25, v26, v27, u28, u29, u30, u31, u32, u33, u34, u35, u36, u37, u38, u39, u40, u41, u42, u43, u44, u45, u46, u47, u48, u49, u50, u51, u52, u53, u54, u55, u56, u57, u58, u59, u60, u61, u62, u63, u64, u65, u66, u67, u68, u69, u70, u71, u72, u73, u74, u75, u76, u77, u78, u79, u80, u81, u82, u83, u84, u85, u86, u87, u88, u89, u90, u91, u92, u93, u94, u95, u96, u97, u98, u99, u100, u101, u102, u103, u104, v105, v106, v107, v108, v109, v110, v111, v112, v113, v114, v115, v116, v117, v118, v119, v120, v121, v122, v123, v124, v125, v126, v127, v128, v129, v130, v131, v132, v133, v134, v135, v136, v137, v138, v139, v140, v141, v142, v143, v144, v145, v146, v147, v148, v149, v150, v151, v152, v153, v154, v155, v156, v157, v158, v159, v160, v161, v162, v163, v164, v165, v166, v167, v168, v169, v170, v171, v172, v173, v174, v175, v176, v177, v178, v179, v180, v181, v182, v183, v184, v185, v186, v187, v188, v189, v190, v191, v192, v193, v194, v195, v196, v197, v198, v199, v200, v201, v202, v203, v204, v205, v206, v207, v208, v209, v210, v211, v212, v213, v214, v215, v216, v217, v218, v219, v220, v221, v222, v223, v224, v225, v226, v227, v228, v229, v230, v231, v232, v233, v234, v235, v236, v237, v238, v239, v240, v241, v242, v243, v244, v245, v246, v247, v248, v249, v250, v251, v252, v253, v254, v255, v256, v257, v258, v259, v260, v261, v262, v263, v264, v265, v266, v267, v268, v269, v270, v271, v272, v273], []⟩ wx)) : Code.wp Tryz.prog sw (Exit.then K Q) ⟨#[u0, u1, u2, u3, u4, u5, u6, u7, u8, u9, .pointer (some ⟨g, 0, none⟩), .pointer (some ⟨m, 0, none⟩), .pointer (some ⟨mb, 0, none⟩), .pointer (some ⟨lb, 0, none⟩), u14, u15, u16, u17, u18, .pointer (some ⟨q, 0, none⟩), u20, u21, u22, u23, u24, u25, u26, u27, u28, u29, u30, u31, u32, u33, u34, u35, u36, u37, u38, u39, u40, u41, u42, u43, u44, u45, u46, u47, u48, u49, u50, u51, u52, u53, u54, u55, u56, u57, u58, u59, u60, u61, u62, u63, u64, u65, u66, u67, u68, u69, u70, u71, u72, u73, u74, u75, u76, u77, u78, u79, u80, u81, u82, u83, u84, u85, u86, u87, u88, u89, u90, u91, u92, u93, u94, u95, u96, u97, u98, u99, u100, u101, u102, u103, u104, u105, u106, u107, u108, u109, u110, u111, u112, u113, u114, u115, .int .i64 xk, u117, u118, u119, u120, u121, u122, u123, u124, u125, u126, u127, u128, u129, u130, u131, u132, u133, u134, u135, u136, u137, u138, u139, u140, u141, u142, u143, u144, u145, u146, u147, u148, u149, u150, u151, u152, u153, u154, u155, u156, u157, u158, u159, u160, u161, u162, u163, u164, u165, u166, u167, u168, u169, u170, u171, u172, u173, u174, u175, u176, u177, u178, u179, u180, u181, u182, u183, u184, u185, u186, u187, u188, u189, u190, u191, u192, u193, u194, u195, u196, u197, u198, u199, u200, u201, u202, u203, u204, u205, u206, u207, u208, u209, u210, u211, u212, u213, u214, u215, u216, u217, u218, u219, u220, u221, u222, u223, u224, u225, u226, u227, u228, u229, u230, u231, u232, u233, u234, u235, u236, u237, u238, u239, u240, u241, u242, u243, u244, u245, u246, u247, u248, u249, u250, u251, u252, u253, u254, u255, u256, u257, u258, u259, u260, u261, u262, u263, u264, u265, u266, u267, u268, u269, u270, u271, u272, u273], []⟩ wa := by
 have HNI := Lib.hid (Sa.wf_in HXN.out)
 rw [hsw]
 dsimp only [at_, Tryz.f3, Option.getD]
 clear hsw
 subst h3
 have q2 : wa.cell? ⟨q, 2, none⟩ = some (.int .i64 xn) := by rw [HQ.out.cell]; rfl
 have HDF := Lib.hid (dr_crash HPa.out.dr xn)
 go_wp2_with fail
 refine (crash_two HPa.out.two xn).mono ?_
 rintro e y1 ⟨rfl, h2, hm2⟩
 have HT := Lib.hid h2
 clear q2
 have HQ3 := Lib.hid (HQ.out.mods hm2 (fun hy => hy.2 (List.mem_cons_self ..)))
 have HLB := Lib.hid (HPa.out.log.mods hm2 (fun hy => hy.2 HPa.out.l1))
 have HMB := Lib.hid (HPa.out.mod.mods hm2 (fun hy => hy.2 HPa.out.l2))
 obtain ⟨fv, nv, sv, wv, hB⟩ := HT.out.counter
 have hcO : y1.cell? ⟨m, 8, none⟩ = some (.int .i64 r.crash) := by rw [hB.cell]; rfl
 have hzO : y1.frozen? ⟨m, 8, none⟩ = false := hB.frozen _
 have q2 : y1.cell? ⟨q, 2, none⟩ = some (.int .i64 xn) := by rw [HQ3.out.cell]; rfl
 clear hB h2 hm2
 go_upto_region 40 with fail
 have HFL := Lib.hid (arm_r (w := y1) xn 11)
 go_wp2_with fail
 refine HFL.out.mono ?_
 rintro e y2 ⟨rfl, rfl⟩
 have HP2 := Lib.hid (HT.out.put (o := 8) (v := .int .i64 (armR xn 11)) (fail := r.fail) (crash := armR xn 11) (err := r.err) (fun _ _ _ _ => rfl) (Sa.traps HT.out).1 (Sa.armR_in HNI.out))
 clear HFL
 go_wp2_with fail
 refine HK.out _ _ _ _ _ _ _ _ _ _ _ _ _ _ _ _ _ _ _ _ _ _ _ _ _ _ _ _ _ _ _ _ _ _ _ _ _ _ _ _ _ _ _ _ _ _ _ _ _ _ _ _ _ _ _ _ _ _ _ _ _ _ _ _ _ _ _ _ _ _ _ _ _ _ _ _ _ _ _ _ _ _ _ _ _ _ _ _ _ _ _ _ _ _ _ _ _ _ _ _ _ _ _ _ _ _ _ _ _ _ _ _ _ _ _ _ _ _ _ _ _ _ _ _ _ _ _ _ _ _ _ _ _ _ _ _ _ _ _ _ _ _ _ _ _ _ _ _ _ _ _ _ _ _ _ _ _ _ _ _ _ _ _ _ _ _ _ _ _ _ _ _ _ _ _ _ _ _ _ ?_
 go_light
 exact ⟨_, lb, n, wh, _, _, rfl, Lib.hid ⟨HP2.out.1.more (by omega), HDF.out.more (by omega), HLB.out.mods HP2.out.2 (fun hy => hy.2 HPa.out.l1), HMB.out.mods HP2.out.2 (fun hy => hy.2 HPa.out.l2), HPa.out.l1, HPa.out.l2, HPa.out.w1, HPa.out.w2⟩, Lib.hid (by have := HN.out; show d.nodes.length ≤ _; omega), Lib.hid (by have := HNN.out; omega)⟩
end Txl
end Go.Proofs.YtchjncnolmiejaaGreat
