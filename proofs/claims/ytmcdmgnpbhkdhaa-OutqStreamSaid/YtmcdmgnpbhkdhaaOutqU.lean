/- OutqStream, the switch of a round: what writes, closes, goes back, is acknowledged. -/
import Derived.Test.YtmcdmgnpbhkdhaaOutqT
import Derived.Test.YtmcdmgnpbhkdhaaStep
import Derived.Test.YtmcdmgnpbhkdhaaPiece
import Derived.Deep.CutBlock
namespace Go.Proofs.Ytmcdmgnpbhkdhaa
open Go.RowKit Go.Lib
set_option linter.unusedVariables false
set_option linter.unusedSectionVars false

noncomputable def osSwitch : Code := ((Try.f4.body.bind (blkIn 2)).getD .skip)
/-- what a round's way leaves -/
def osRel (w : World) (gq gx : Nat) (cs : List Value) (k : Nat) (al sh se : Value) (W : World) : Prop :=
  ∃ (q' : OQ) (t' : ByteArray) (v' : Value), al = .string t' ∧ sh = .bool q'.cl ∧ se = .int .i64 q'.sent ∧ Mem w W [oqA gq q' v', oqB q' v', atR gx 50 cs] ∧ SS q' t' (k + 1)
section
variable {u0 u1 u2 u7 u9 u10 u11 u12 u13 u14 u15 u16 u17 u18 u19 u20 u21 u22 u23 u24 u25 u27 u28 u29 u30 u31 u32 u33 u34 u35 u36 u37 u38 u39 u40 u41 u42 u43 u44 u45 u46 u47 u48 u49 u50 u51 u52 u53 u54 u55 u56 u57 u58 u59 u60 u61 u62 u63 u64 u65 u66 u67 u68 u69 u70 u71 u72 u73 u74 u75 u76 u77 u78 u79 u80 u81 u82 u83 u84 u85 u86 u87 u88 u89 u90 u91 u92 u93 u94 u95 u96 u97 u98 u99 u100 u101 u102 u103 u104 u105 u106 u107 u108 u109 u110 u111 u112 u113 u114 u115 u116 u117 u118 u119 u120 u121 u122 u123 u124 u125 u126 u127 u128 u129 u130 u131 u132 u133 u134 u135 u136 u137 u138 u139 u140 u141 u142 u143 u144 u145 u146 u147 u148 u149 u150 u151 u152 u153 u154 u155 u156 u157 u158 u159 u160 u161 u162 u163 u164 u165 u166 u167 u168 u169 u170 u171 u172 u173 u174 u175 u176 u177 u178 u179 u180 u181 u182 u183 u184 u185 u186 u187 u188 u189 u190 u191 u192 u193 u194 u195 u196 u197 u198 u199 u200 u201 u202 u203 u204 u205 u206 u207 u208 u209 u210 u211 u212 u213 u214 u215 u216 u217 u218 u219 u220 u221 u222 u223 u224 u225 u226 u227 u228 u229 u230 u231 u232 u233 u234 u235 u236 u237 u238 u239 u240 u241 u242 u243 u244 u245 u246 u247 u248 u249 u250 u251 u252 u253 u254 u255 u256 u257 u258 u259 u260 u261 u262 u263 u264 u265 u266 u267 u268 u269 u270 : Value} (w w4 : World) (gq gx k : Nat) (q : OQ) (t : ByteArray) (v : Value) (cs : List Value) (kk xa xb : Int) (xs : ByteArray) (K : Act → World → Prop) (Q0 : Exit → Act → World → Prop)
  (hM : Mem w w4 [oqA gq q v, oqB q v, atR gx 50 cs]) (hS : SS q t k) (hk : k < 140737488351232) (hxa : cs[1]? = some (.int .i64 xa)) (hxb : cs[2]? = some (.int .i64 xb)) (hxs : cs[4]? = some (.string xs)) (hxs1 : xs.size ≤ 140737488351232)
  (hxa1 : -9223372036854775808 ≤ xa) (hxa2 : xa ≤ 9223372036854775807) (hxb1 : -9223372036854775808 ≤ xb) (hxb2 : xb ≤ 9223372036854775807)
  (hK : ∀ (v2 v4 v5 v6 v9 v10 v11 v12 v13 v14 v15 v27 v28 v29 v30 v31 v32 v33 v34 v35 v36 v37 v38 v39 v40 v41 v42 v43 v44 v45 v46 v47 v48 v49 v50 v51 v52 v53 v54 v55 v56 v57 v58 v59 v60 v61 v62 v63 v64 v65 v66 v67 v68 v69 v70 v71 v72 v73 v74 v75 v76 v77 v78 v79 v80 v81 v82 v83 v84 v85 v86 v87 v88 v89 v90 v91 v92 v93 v94 v95 v96 v97 v98 v99 v100 v101 v102 v103 v104 v105 v106 v107 v108 v109 v110 v111 v112 v113 v114 v115 v116 v117 v118 v119 v120 v121 v122 v123 v124 v125 v126 v127 v128 v129 v130 v131 v132 v133 v134 v135 v136 v137 v138 v139 v140 v141 v142 v143 v144 v145 v146 v147 v148 v149 v150 v151 v152 v153 v154 v155 v156 v157 v158 v159 v160 v161 v162 v163 v164 v165 v166 v167 v168 v169 v170 v171 v172 v173 v174 v175 v176 v177 v178 v179 v180 v181 v182 v183 v184 v185 v186 v187 v188 v189 v190 v191 v192 v193 v194 v195 v196 v197 v198 v199 v200 v201 v202 v203 v204 v205 v206 v207 v208 v209 v210 v211 v212 v213 v214 v215 v216 v217 v218 v219 v220 v221 v222 v223 v224 v225 v226 v227 v228 v229 v230 v231 v232 v233 : Value) (W : World), osRel w gq gx cs k v4 v5 v6 W → K ⟨#[u0, u1, v2, .pointer (some ⟨gq, 0, none⟩), v4, v5, v6, u7, .pointer (some ⟨gx, 0, none⟩), v9, v10, v11, v12, v13, v14, v15, u16, u17, u18, u19, u20, u21, u22, u23, u24, u25, .int .i64 kk, v27, v28, v29, v30, v31, v32, v33, v34, v35, v36, v37, v38, v39, v40, v41, v42, v43, v44, v45, v46, v47, v48, v49, v50, v51, v52, v53, v54, v55, v56, v57, v58, v59, v60, v61, v62, v63, v64, v65, v66, v67, v68, v69, v70, v71, v72, v73, v74, v75, v76, v77, v78, v79, v80, v81, v82, v83, v84, v85, v86, v87, v88, v89, v90, v91, v92, v93, v94, v95, v96, v97, v98, v99, v100, v101, v102, v103, v104, v105, v106, v107, v108, v109, v110, v111, v112, v113, v114, v115, v116, v117, v118, v119, v120, v121, v122, v123, v124, v125, v126, v127, v128, v129, v130, v131, v132, v133, v134, v135, v136, v137, v138, v139, v140, v141, v142, v143, v144, v145, v146, v147, v148, v149, v150, v151, v152, v153, v154, v155, v156, v157, v158, v159, v160, v161, v162, v163, v164, v165, v166, v167, v168, v169, v170, v171, v172, v173, v174, v175, v176, v177, v178, v179, v180, v181, v182, v183, v184, v185, v186, v187, v188, v189, v190, v191, v192, v193, v194, v195, v196, v197, v198, v199, v200, v201, v202, v203, v204, v205, v206, v207, v208, v209, v210, v211, v212, v213, v214, v215, v216, v217, v218, v219, v220, v221, v222, v223, v224, v225, v226, v227, v228, v229, v230, v231, v232, v233, u234, u235, u236, u237, u238, u239, u240, u241, u242, u243, u244, u245, u246, u247, u248, u249, u250, u251, u252, u253, u254, u255, u256, u257, u258, u259, u260, u261, u262, u263, u264, u265, u266, u267, u268, u269, u270], []⟩ W)
include hM hS hk hxa hxb hxs hxs1 hxa1 hxa2 hxb1 hxb2 hK
set_option maxRecDepth 100000 in
set_option maxHeartbeats 8000000 in
theorem os_one (h : kk = 1) : Code.wp Try.prog osSwitch (Exit.then K Q0) ⟨#[u0, u1, u2, .pointer (some ⟨gq, 0, none⟩), .string t, .bool q.cl, .int .i64 q.sent, u7, .pointer (some ⟨gx, 0, none⟩), u9, u10, u11, u12, u13, u14, u15, u16, u17, u18, u19, u20, u21, u22, u23, u24, u25, .int .i64 kk, u27, u28, u29, u30, u31, u32, u33, u34, u35, u36, u37, u38, u39, u40, u41, u42, u43, u44, u45, u46, u47, u48, u49, u50, u51, u52, u53, u54, u55, u56, u57, u58, u59, u60, u61, u62, u63, u64, u65, u66, u67, u68, u69, u70, u71, u72, u73, u74, u75, u76, u77, u78, u79, u80, u81, u82, u83, u84, u85, u86, u87, u88, u89, u90, u91, u92, u93, u94, u95, u96, u97, u98, u99, u100, u101, u102, u103, u104, u105, u106, u107, u108, u109, u110, u111, u112, u113, u114, u115, u116, u117, u118, u119, u120, u121, u122, u123, u124, u125, u126, u127, u128, u129, u130, u131, u132, u133, u134, u135, u136, u137, u138, u139, u140, u141, u142, u143, u144, u145, u146, u147, u148, u149, u150, u151, u152, u153, u154, u155, u156, u157, u158, u159, u160, u161, u162, u163, u164, u165, u166, u167, u168, u169, u170, u171, u172, u173, u174, u175, u176, u177, u178, u179, u180, u181, u182, u183, u184, u185, u186, u187, u188, u189, u190, u191, u192, u193, u194, u195, u196, u197, u198, u199, u200, u201, u202, u203, u204, u205, u206, u207, u208, u209, u210, u211, u212, u213, u214, u215, u216, u217, u218, u219, u220, u221, u222, u223, u224, u225, u226, u227, u228, u229, u230, u231, u232, u233, u234, u235, u236, u237, u238, u239, u240, u241, u242, u243, u244, u245, u246, u247, u248, u249, u250, u251, u252, u253, u254, u255, u256, u257, u258, u259, u260, u261, u262, u263, u264, u265, u266, u267, u268, u269, u270], []⟩ w4 := by
  subst h
  conv => arg 2; whnf
  go_wp2_with (go_at_call 15; refine (Close_any gq q v _ (oq_hand hM)).mono ?_; rintro e w6 ⟨rfl, hM6⟩)
  unfold osRel
  exact ⟨{ q with cl := true }, t, v, rfl, rfl, rfl, oq_put hM hM6, hS.close⟩
set_option maxRecDepth 100000 in
set_option maxHeartbeats 8000000 in
theorem os_two (h : kk = 2) : Code.wp Try.prog osSwitch (Exit.then K Q0) ⟨#[u0, u1, u2, .pointer (some ⟨gq, 0, none⟩), .string t, .bool q.cl, .int .i64 q.sent, u7, .pointer (some ⟨gx, 0, none⟩), u9, u10, u11, u12, u13, u14, u15, u16, u17, u18, u19, u20, u21, u22, u23, u24, u25, .int .i64 kk, u27, u28, u29, u30, u31, u32, u33, u34, u35, u36, u37, u38, u39, u40, u41, u42, u43, u44, u45, u46, u47, u48, u49, u50, u51, u52, u53, u54, u55, u56, u57, u58, u59, u60, u61, u62, u63, u64, u65, u66, u67, u68, u69, u70, u71, u72, u73, u74, u75, u76, u77, u78, u79, u80, u81, u82, u83, u84, u85, u86, u87, u88, u89, u90, u91, u92, u93, u94, u95, u96, u97, u98, u99, u100, u101, u102, u103, u104, u105, u106, u107, u108, u109, u110, u111, u112, u113, u114, u115, u116, u117, u118, u119, u120, u121, u122, u123, u124, u125, u126, u127, u128, u129, u130, u131, u132, u133, u134, u135, u136, u137, u138, u139, u140, u141, u142, u143, u144, u145, u146, u147, u148, u149, u150, u151, u152, u153, u154, u155, u156, u157, u158, u159, u160, u161, u162, u163, u164, u165, u166, u167, u168, u169, u170, u171, u172, u173, u174, u175, u176, u177, u178, u179, u180, u181, u182, u183, u184, u185, u186, u187, u188, u189, u190, u191, u192, u193, u194, u195, u196, u197, u198, u199, u200, u201, u202, u203, u204, u205, u206, u207, u208, u209, u210, u211, u212, u213, u214, u215, u216, u217, u218, u219, u220, u221, u222, u223, u224, u225, u226, u227, u228, u229, u230, u231, u232, u233, u234, u235, u236, u237, u238, u239, u240, u241, u242, u243, u244, u245, u246, u247, u248, u249, u250, u251, u252, u253, u254, u255, u256, u257, u258, u259, u260, u261, u262, u263, u264, u265, u266, u267, u268, u269, u270], []⟩ w4 := by
  subst h
  conv => arg 2; whnf
  go_wp2_with (go_at_call 22; refine (Back_any gq q v _ (oq_hand hM)).mono ?_; rintro e w6 ⟨rfl, hM6⟩)
  unfold osRel
  exact ⟨{ q with cur := q.una }, t, v, rfl, rfl, rfl, oq_put hM hM6, hS.back⟩
set_option maxRecDepth 100000 in
set_option maxHeartbeats 8000000 in
theorem os_zero (h : kk = 0) : Code.wp Try.prog osSwitch (Exit.then K Q0) ⟨#[u0, u1, u2, .pointer (some ⟨gq, 0, none⟩), .string t, .bool q.cl, .int .i64 q.sent, u7, .pointer (some ⟨gx, 0, none⟩), u9, u10, u11, u12, u13, u14, u15, u16, u17, u18, u19, u20, u21, u22, u23, u24, u25, .int .i64 kk, u27, u28, u29, u30, u31, u32, u33, u34, u35, u36, u37, u38, u39, u40, u41, u42, u43, u44, u45, u46, u47, u48, u49, u50, u51, u52, u53, u54, u55, u56, u57, u58, u59, u60, u61, u62, u63, u64, u65, u66, u67, u68, u69, u70, u71, u72, u73, u74, u75, u76, u77, u78, u79, u80, u81, u82, u83, u84, u85, u86, u87, u88, u89, u90, u91, u92, u93, u94, u95, u96, u97, u98, u99, u100, u101, u102, u103, u104, u105, u106, u107, u108, u109, u110, u111, u112, u113, u114, u115, u116, u117, u118, u119, u120, u121, u122, u123, u124, u125, u126, u127, u128, u129, u130, u131, u132, u133, u134, u135, u136, u137, u138, u139, u140, u141, u142, u143, u144, u145, u146, u147, u148, u149, u150, u151, u152, u153, u154, u155, u156, u157, u158, u159, u160, u161, u162, u163, u164, u165, u166, u167, u168, u169, u170, u171, u172, u173, u174, u175, u176, u177, u178, u179, u180, u181, u182, u183, u184, u185, u186, u187, u188, u189, u190, u191, u192, u193, u194, u195, u196, u197, u198, u199, u200, u201, u202, u203, u204, u205, u206, u207, u208, u209, u210, u211, u212, u213, u214, u215, u216, u217, u218, u219, u220, u221, u222, u223, u224, u225, u226, u227, u228, u229, u230, u231, u232, u233, u234, u235, u236, u237, u238, u239, u240, u241, u242, u243, u244, u245, u246, u247, u248, u249, u250, u251, u252, u253, u254, u255, u256, u257, u258, u259, u260, u261, u262, u263, u264, u265, u266, u267, u268, u269, u270], []⟩ w4 := by
  subst h
  have hts := hS.sz
  have HW := Lib.hid (Write_any gq q v xs w4 (oq_hand hM) hS.ok hxs1)
  have hon := oN_le hS.ok xs.size
  have hsh := fun h => shut_none (q := q) h xs.size
  have HS3 := Lib.hid (hS.write xs)
  have E1 := Lib.hid (show (oWrite q xs).cl = q.cl from rfl)
  have E2 := Lib.hid (show (oWrite q xs).sent = q.sent from rfl)
  generalize oWrite q xs = q3 at *
  generalize oN q xs.size = n at *
  have b1 : (0 : Int) ≤ (n : Int) := by omega
  have b2 : (n : Int) ≤ (xs.size : Int) := by omega
  have b3 : n ≤ xs.size := by omega
  clear hon hS
  have cs := (hM.cells 2 rfl 4).trans hxs
  cases hcl : q.cl
  · rw [hcl] at E1
    have ECL := Lib.hid hcl
    clear hsh hcl
    conv => arg 2; whnf
    go_wp2_with (go_at_call 13; refine HW.out.mono ?_; rintro e w6 ⟨v6, rfl, hM6⟩; replace hM := oq_put hM hM6; clear hM6; have cs := (hM.cells 2 rfl 4).trans hxs; dsimp only)
    unfold osRel
    exact ⟨q3, _, v6, rfl, by rw [E1.out], by rw [E2.out], hM, HS3.out⟩
  · rw [hcl] at E1
    have ECL := Lib.hid hcl
    have b4 : (n : Int) ≤ 0 := by have := hsh hcl; omega
    clear hsh hcl
    conv => arg 2; whnf
    go_wp2_with (go_at_call 13; refine HW.out.mono ?_; rintro e w6 ⟨v6, rfl, hM6⟩; replace hM := oq_put hM hM6; clear hM6; have cs := (hM.cells 2 rfl 4).trans hxs; dsimp only)
    unfold osRel
    exact ⟨q3, _, v6, rfl, by rw [E1.out], by rw [E2.out], hM, HS3.out⟩
set_option maxRecDepth 100000 in
set_option maxHeartbeats 8000000 in
theorem os_three (h : kk = 3) : Code.wp Try.prog osSwitch (Exit.then K Q0) ⟨#[u0, u1, u2, .pointer (some ⟨gq, 0, none⟩), .string t, .bool q.cl, .int .i64 q.sent, u7, .pointer (some ⟨gx, 0, none⟩), u9, u10, u11, u12, u13, u14, u15, u16, u17, u18, u19, u20, u21, u22, u23, u24, u25, .int .i64 kk, u27, u28, u29, u30, u31, u32, u33, u34, u35, u36, u37, u38, u39, u40, u41, u42, u43, u44, u45, u46, u47, u48, u49, u50, u51, u52, u53, u54, u55, u56, u57, u58, u59, u60, u61, u62, u63, u64, u65, u66, u67, u68, u69, u70, u71, u72, u73, u74, u75, u76, u77, u78, u79, u80, u81, u82, u83, u84, u85, u86, u87, u88, u89, u90, u91, u92, u93, u94, u95, u96, u97, u98, u99, u100, u101, u102, u103, u104, u105, u106, u107, u108, u109, u110, u111, u112, u113, u114, u115, u116, u117, u118, u119, u120, u121, u122, u123, u124, u125, u126, u127, u128, u129, u130, u131, u132, u133, u134, u135, u136, u137, u138, u139, u140, u141, u142, u143, u144, u145, u146, u147, u148, u149, u150, u151, u152, u153, u154, u155, u156, u157, u158, u159, u160, u161, u162, u163, u164, u165, u166, u167, u168, u169, u170, u171, u172, u173, u174, u175, u176, u177, u178, u179, u180, u181, u182, u183, u184, u185, u186, u187, u188, u189, u190, u191, u192, u193, u194, u195, u196, u197, u198, u199, u200, u201, u202, u203, u204, u205, u206, u207, u208, u209, u210, u211, u212, u213, u214, u215, u216, u217, u218, u219, u220, u221, u222, u223, u224, u225, u226, u227, u228, u229, u230, u231, u232, u233, u234, u235, u236, u237, u238, u239, u240, u241, u242, u243, u244, u245, u246, u247, u248, u249, u250, u251, u252, u253, u254, u255, u256, u257, u258, u259, u260, u261, u262, u263, u264, u265, u266, u267, u268, u269, u270], []⟩ w4 := by
  subst h
  have hts := hS.sz
  have ca := (hM.cells 2 rfl 1).trans hxa
  obtain ⟨n, q3, hC, hu, hn0, hs1, hs2, hc3, hS3⟩ := ack_both gq q v t k xa hS (by have := hS.base; omega)
  have hU := fun (W : World) (v' : Value) (h : MemX noE w W [oqA gq q3 v', oqB q3 v', atR gx 50 cs]) => calls_b (Una_any gq q3 v' W (h.at_ 0 rfl))
  have hU0 := fun (W : World) (h : MemX noE w W [oqA gq q v, oqB q v, atR gx 50 cs]) => calls_b (Una_any gq q v W (h.at_ 0 rfl))
  rw [hu] at hU hs1
  have hul := hS.check
  have hue := hS.fin
  have huq := qEnd_bd (q := q)
  have u1 := hS.ok.uc
  have u2 : q.una + n ≤ q.sent := hs1
  have u3 : q.sent ≤ 4611686018427387904 := by omega
  have HC := Lib.hid hC
  have HU := Lib.hid hU
  have HU0 := Lib.hid hU0
  have HS3 := Lib.hid hS3
  have E1 := Lib.hid hc3
  have E2 := Lib.hid hs2
  clear hC hU hU0 hS3 hc3 hs2 hu hs1 hul hue huq hS
  generalize q.una = u at *
  conv => arg 2; whnf
  go_wp2_with (first | (go_at_call 20; first | (with_reducible refine (HU0.out _ hM).mono ?_; rintro e W ⟨rfl, hb⟩; replace hM := hM.kept hb; clear hb; have ca := (hM.cells 2 rfl 1).trans hxa; dsimp only) | (with_reducible refine (HU.out _ _ hM).mono ?_; rintro e W ⟨rfl, hb⟩; replace hM := hM.kept hb; clear hb; dsimp only)) | (go_at_call 18; refine (HC.out _ (oq_hand hM)).mono ?_; rintro e W ⟨v6, rfl, hM6⟩; replace hM := oq_put hM hM6; clear hM6; dsimp only))
  unfold osRel
  exact ⟨q3, t, v6, rfl, by rw [E1.out], by rw [E2.out], hM, HS3.out⟩
end
end Go.Proofs.Ytmcdmgnpbhkdhaa
