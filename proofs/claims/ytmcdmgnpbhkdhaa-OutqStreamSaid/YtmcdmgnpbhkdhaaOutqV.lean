/- OutqStream, the switch of a round: what goes out. -/
import Derived.Test.YtmcdmgnpbhkdhaaOutqU
namespace Go.Proofs.Ytmcdmgnpbhkdhaa
open Go.RowKit Go.Lib
set_option linter.unusedVariables false
set_option linter.unusedSectionVars false

theorem bytes_nil {b : ByteArray} (h : b.size = 0) : b = ⟨#[]⟩ := congrArg ByteArray.mk (Array.eq_empty_of_size_eq_zero h)
section
variable {u0 u1 u2 u7 u9 u10 u11 u12 u13 u14 u15 u16 u17 u18 u19 u20 u21 u22 u23 u24 u25 u27 u28 u29 u30 u31 u32 u33 u34 u35 u36 u37 u38 u39 u40 u41 u42 u43 u44 u45 u46 u47 u48 u49 u50 u51 u52 u53 u54 u55 u56 u57 u58 u59 u60 u61 u62 u63 u64 u65 u66 u67 u68 u69 u70 u71 u72 u73 u74 u75 u76 u77 u78 u79 u80 u81 u82 u83 u84 u85 u86 u87 u88 u89 u90 u91 u92 u93 u94 u95 u96 u97 u98 u99 u100 u101 u102 u103 u104 u105 u106 u107 u108 u109 u110 u111 u112 u113 u114 u115 u116 u117 u118 u119 u120 u121 u122 u123 u124 u125 u126 u127 u128 u129 u130 u131 u132 u133 u134 u135 u136 u137 u138 u139 u140 u141 u142 u143 u144 u145 u146 u147 u148 u149 u150 u151 u152 u153 u154 u155 u156 u157 u158 u159 u160 u161 u162 u163 u164 u165 u166 u167 u168 u169 u170 u171 u172 u173 u174 u175 u176 u177 u178 u179 u180 u181 u182 u183 u184 u185 u186 u187 u188 u189 u190 u191 u192 u193 u194 u195 u196 u197 u198 u199 u200 u201 u202 u203 u204 u205 u206 u207 u208 u209 u210 u211 u212 u213 u214 u215 u216 u217 u218 u219 u220 u221 u222 u223 u224 u225 u226 u227 u228 u229 u230 u231 u232 u233 u234 u235 u236 u237 u238 u239 u240 u241 u242 u243 u244 u245 u246 u247 u248 u249 u250 u251 u252 u253 u254 u255 u256 u257 u258 u259 u260 u261 u262 u263 u264 u265 u266 u267 u268 u269 u270 : Value} (w w4 : World) (gq gx k : Nat) (q : OQ) (t : ByteArray) (v : Value) (cs : List Value) (kk xa xb : Int) (K : Act → World → Prop) (Q0 : Exit → Act → World → Prop)
  (hM : Mem w w4 [oqA gq q v, oqB q v, atR gx 50 cs]) (hS : SS q t k) (hk : k < 140737488351232) (hxa : cs[1]? = some (.int .i64 xa)) (hxb : cs[2]? = some (.int .i64 xb))
  (hxa1 : -9223372036854775808 ≤ xa) (hxa2 : xa ≤ 9223372036854775807) (hxb1 : -9223372036854775808 ≤ xb) (hxb2 : xb ≤ 9223372036854775807) (hd1 : 4 ≤ kk)
include hM hS hk hxa hxb hxa1 hxa2 hxb1 hxb2 hd1
set_option maxRecDepth 100000 in
set_option maxHeartbeats 8000000 in
theorem os_not (hi : oIs q q.cur xa xb = false)
    (hX : ∀ (v2 v9 v10 v11 v12 v13 v14 v15 v27 v28 v29 v30 v31 v32 v33 v34 v35 v36 v37 v38 v39 v40 v41 v42 v43 v44 v45 v46 v47 v48 v49 v50 v51 v52 v53 v54 v55 v56 v57 v58 v59 v60 v61 v62 v63 v64 v65 v66 v67 v68 v69 v70 v71 v72 v73 v74 v75 v76 v77 v78 v79 v80 v81 v82 v83 v84 v85 v86 v87 v88 v89 v90 v91 v92 v93 v94 v95 v96 v97 v98 v99 v100 v101 v102 v103 v104 v105 v106 v107 v108 v109 v110 v111 v112 v113 v114 v115 v116 v117 v118 v119 v120 v121 v122 v123 v124 v125 v126 v127 v128 v129 v130 v131 v132 v133 v134 v135 v136 v137 v138 v139 v140 v141 v142 v143 v144 v145 v146 v147 v148 v149 v150 v151 v152 v153 v154 v155 v156 v157 v158 v159 v160 v161 v162 v163 v164 v165 v166 v167 v168 v169 v170 v171 v172 v173 v174 v175 v176 v177 v178 v179 v180 v181 v182 v183 v184 v185 v186 v187 v188 v189 v190 v191 v192 v193 v194 v195 v196 v197 v198 v199 v200 v201 v202 v203 v204 v205 v206 v207 v208 v209 v210 v211 v212 v213 v214 v215 v216 v217 v218 v219 v220 v221 v222 v223 v224 v225 v226 v227 v228 v229 v230 v231 v232 v233 : Value) (W : World), Mem w W [oqA gq q v, oqB q v, atR gx 50 cs] → Q0 (.exit 1) ⟨#[u0, u1, v2, .pointer (some ⟨gq, 0, none⟩), .string t, .bool q.cl, .int .i64 q.sent, u7, .pointer (some ⟨gx, 0, none⟩), v9, v10, v11, v12, v13, v14, v15, u16, u17, u18, u19, u20, u21, u22, u23, u24, u25, .int .i64 kk, v27, v28, v29, v30, v31, v32, v33, v34, v35, v36, v37, v38, v39, v40, v41, v42, v43, v44, v45, v46, v47, v48, v49, v50, v51, v52, v53, v54, v55, v56, v57, v58, v59, v60, v61, v62, v63, v64, v65, v66, v67, v68, v69, v70, v71, v72, v73, v74, v75, v76, v77, v78, v79, v80, v81, v82, v83, v84, v85, v86, v87, v88, v89, v90, v91, v92, v93, v94, v95, v96, v97, v98, v99, v100, v101, v102, v103, v104, v105, v106, v107, v108, v109, v110, v111, v112, v113, v114, v115, v116, v117, v118, v119, v120, v121, v122, v123, v124, v125, v126, v127, v128, v129, v130, v131, v132, v133, v134, v135, v136, v137, v138, v139, v140, v141, v142, v143, v144, v145, v146, v147, v148, v149, v150, v151, v152, v153, v154, v155, v156, v157, v158, v159, v160, v161, v162, v163, v164, v165, v166, v167, v168, v169, v170, v171, v172, v173, v174, v175, v176, v177, v178, v179, v180, v181, v182, v183, v184, v185, v186, v187, v188, v189, v190, v191, v192, v193, v194, v195, v196, v197, v198, v199, v200, v201, v202, v203, v204, v205, v206, v207, v208, v209, v210, v211, v212, v213, v214, v215, v216, v217, v218, v219, v220, v221, v222, v223, v224, v225, v226, v227, v228, v229, v230, v231, v232, v233, u234, u235, u236, u237, u238, u239, u240, u241, u242, u243, u244, u245, u246, u247, u248, u249, u250, u251, u252, u253, u254, u255, u256, u257, u258, u259, u260, u261, u262, u263, u264, u265, u266, u267, u268, u269, u270], []⟩ W) : Code.wp Try.prog osSwitch (Exit.then K Q0) ⟨#[u0, u1, u2, .pointer (some ⟨gq, 0, none⟩), .string t, .bool q.cl, .int .i64 q.sent, u7, .pointer (some ⟨gx, 0, none⟩), u9, u10, u11, u12, u13, u14, u15, u16, u17, u18, u19, u20, u21, u22, u23, u24, u25, .int .i64 kk, u27, u28, u29, u30, u31, u32, u33, u34, u35, u36, u37, u38, u39, u40, u41, u42, u43, u44, u45, u46, u47, u48, u49, u50, u51, u52, u53, u54, u55, u56, u57, u58, u59, u60, u61, u62, u63, u64, u65, u66, u67, u68, u69, u70, u71, u72, u73, u74, u75, u76, u77, u78, u79, u80, u81, u82, u83, u84, u85, u86, u87, u88, u89, u90, u91, u92, u93, u94, u95, u96, u97, u98, u99, u100, u101, u102, u103, u104, u105, u106, u107, u108, u109, u110, u111, u112, u113, u114, u115, u116, u117, u118, u119, u120, u121, u122, u123, u124, u125, u126, u127, u128, u129, u130, u131, u132, u133, u134, u135, u136, u137, u138, u139, u140, u141, u142, u143, u144, u145, u146, u147, u148, u149, u150, u151, u152, u153, u154, u155, u156, u157, u158, u159, u160, u161, u162, u163, u164, u165, u166, u167, u168, u169, u170, u171, u172, u173, u174, u175, u176, u177, u178, u179, u180, u181, u182, u183, u184, u185, u186, u187, u188, u189, u190, u191, u192, u193, u194, u195, u196, u197, u198, u199, u200, u201, u202, u203, u204, u205, u206, u207, u208, u209, u210, u211, u212, u213, u214, u215, u216, u217, u218, u219, u220, u221, u222, u223, u224, u225, u226, u227, u228, u229, u230, u231, u232, u233, u234, u235, u236, u237, u238, u239, u240, u241, u242, u243, u244, u245, u246, u247, u248, u249, u250, u251, u252, u253, u254, u255, u256, u257, u258, u259, u260, u261, u262, u263, u264, u265, u266, u267, u268, u269, u270], []⟩ w4 := by
  have hts := hS.sz
  have d0 : (kk == 0) = false := by simp; omega
  have d1 : (kk == 1) = false := by simp; omega
  have d2 : (kk == 2) = false := by simp; omega
  have d3 : (kk == 3) = false := by simp; omega
  have ca := (hM.cells 2 rfl 1).trans hxa
  have cb := (hM.cells 2 rfl 2).trans hxb
  have hn := ss_not (q := q) xa xb hi
  have hn1 := next_not hS.ok xa xb hi
  have hb2 : q.base ≤ 4611686018427387904 := by have := hS.base; omega
  have HN := fun (W : World) (h : OPre W W gq v q v) => Next_any gq q v xa xb W h hS.ok hb2 ⟨hxa1, hxa2⟩ ⟨hxb1, hxb2⟩
  rw [hn1, hi] at HN
  generalize qPiece q q.cur xa xb = p at HN
  have HN := Lib.hid HN
  have kl := hS.ok.len
  have ka := hS.ok.ba
  have HCU := Lib.hid (fun W (h : OAt W gq q v) => Cur_any gq q v W h)
  have HEN := Lib.hid (fun W (h : OAt W gq q v) (hV : OwnB W 0 v q.l) => End_any gq q v W h hV kl ka hb2)
  have he1 : 1 ≤ qEnd q := hS.check.2.2.2.2.2
  have he2 : qEnd q ≤ 4611686018427387904 := by
    have := hS.fin; have := qEnd_bd (q := q); omega
  clear hn1 hi hS kl ka hb2 hts
  generalize hqe : qEnd q = qe at *
  clear hqe
  generalize q.cur = c at *
  conv => arg 2; whnf
  go_upto_region 12 with         (first
          | (go_at_call 23; refine (HCU.out _ (hM.at_ 0 rfl)).mono ?_; rintro e W ⟨rfl, rfl⟩; dsimp only)
          | (go_at_call 17; refine (HN.out _ (oq_hand hM)).mono ?_; rintro e W ⟨rfl, hM6⟩; replace hM := oq_put hM hM6; clear hM6; have ca := (hM.cells 2 rfl 1).trans hxa; have cb := (hM.cells 2 rfl 2).trans hxb; dsimp only)
          | (refine at_box_ ?_; refine wpList_box_mem rfl _ _ rfl _ rfl hM ?_; clear hM; intro gb W hM; first | (simp only [List.nil_append] at hM) | (simp only [List.cons_append, List.nil_append] at hM))
          | (refine at_alloc_ (T := 30) ?_; refine wpList_alloc_mem rfl 30 rfl _ zv_Piece _ rfl hM ?_; clear hM; intro gb W hM; first | (simp only [List.nil_append] at hM) | (simp only [List.cons_append, List.nil_append] at hM))
          | (refine at_load_ (T := 30) ?_; refine at_wanted_ (by go_simp) ?_; first | (refine wpList_loadg_mem (by go_simp) 30 _ rfl 0 _ _ _ hM rfl rfl _ Try.underlying30 rfl sz_Piece ?_) | (refine wpList_loadg_mem (by go_simp) 30 _ rfl 1 _ _ _ hM rfl rfl _ Try.underlying30 rfl sz_Piece ?_) | (refine wpList_loadg_mem (by go_simp) 30 _ rfl 2 _ _ _ hM rfl rfl _ Try.underlying30 rfl sz_Piece ?_) | (refine wpList_loadg_mem (by go_simp) 30 _ rfl 3 _ _ _ hM rfl rfl _ Try.underlying30 rfl sz_Piece ?_))
          | (refine at_store_ (T := 30) ?_; first | (refine wpList_store_mem rfl 30 _ _ rfl 0 _ _ _ _ hM rfl rfl rfl rfl sz_Piece rfl ?_; clear hM; intro W hM; simp only [List.set_cons_zero] at hM) | (refine wpList_store_mem rfl 30 _ _ rfl 1 _ _ _ _ hM rfl rfl rfl rfl sz_Piece rfl ?_; clear hM; intro W hM; simp only [List.set_cons_succ, List.set_cons_zero] at hM) | (refine wpList_store_mem rfl 30 _ _ rfl 2 _ _ _ _ hM rfl rfl rfl rfl sz_Piece rfl ?_; clear hM; intro W hM; simp only [List.set_cons_succ, List.set_cons_zero] at hM) | (refine wpList_store_mem rfl 30 _ _ rfl 3 _ _ _ _ hM rfl rfl rfl rfl sz_Piece rfl ?_; clear hM; intro W hM; simp only [List.set_cons_succ, List.set_cons_zero] at hM)))
  have ca := (hM.cells 2 rfl 1).trans hxa
  have cb := (hM.cells 2 rfl 2).trans hxb
  have l2 := hM.lt 2 rfl
  have HC := Lib.hid (fun (u : Later W) => HCU.out u.now ((hM.kept u.still).at_ 0 rfl))
  have HE := Lib.hid (fun (u : Later W) => HEN.out u.now ((hM.kept u.still).at_ 0 rfl) ((hM.kept u.still).own 1 rfl))
  by_cases hm : qe < xa
  · have hm1 : ¬ xa < qe := by omega
    rw [if_neg hm1] at hn
    by_cases hc : c < qe
    · have hb0 : xb ≤ 0 := by omega
      clear hn
      refine wp_region_later (by kernel_rfl) (by kernel_rfl) (fun hlc => ?_)
      repeat (go_big_quiet_step (first | (go_at_call 23; exact later_same (HC.out _)) | (go_at_call 19; exact later_call (HE.out _))))
      refine wpQuiet_nil ?_
      intro w9 hb9
      clear hlc
      go_wp2_with fail
      exact (hM.kept hb9).take_ 3
    · have hc' : qe ≤ c := by omega
      clear hn
      refine wp_region_later (by kernel_rfl) (by kernel_rfl) (fun hlc => ?_)
      repeat (go_big_quiet_step (first | (go_at_call 23; exact later_same (HC.out _)) | (go_at_call 19; exact later_call (HE.out _))))
      refine wpQuiet_nil ?_
      intro w9 hb9
      clear hlc
      go_wp2_with fail
      exact (hM.kept hb9).take_ 3
  · have hm1 : xa ≤ qe := by omega
    by_cases hc : c < xa
    · have hb0 : xb ≤ 0 := by
        by_cases he : xa < qe
        · rw [if_pos he] at hn; omega
        · rw [if_neg he] at hn; omega
      clear hn
      refine wp_region_later (by kernel_rfl) (by kernel_rfl) (fun hlc => ?_)
      repeat (go_big_quiet_step (first | (go_at_call 23; exact later_same (HC.out _)) | (go_at_call 19; exact later_call (HE.out _))))
      refine wpQuiet_nil ?_
      intro w9 hb9
      clear hlc
      go_wp2_with fail
      exact (hM.kept hb9).take_ 3
    · have hc' : xa ≤ c := by omega
      clear hn
      refine wp_region_later (by kernel_rfl) (by kernel_rfl) (fun hlc => ?_)
      repeat (go_big_quiet_step (first | (go_at_call 23; exact later_same (HC.out _)) | (go_at_call 19; exact later_call (HE.out _))))
      refine wpQuiet_nil ?_
      intro w9 hb9
      clear hlc
      go_wp2_with fail
      exact (hM.kept hb9).take_ 3
set_option maxRecDepth 100000 in
set_option maxHeartbeats 8000000 in
theorem os_yes (hi : oIs q q.cur xa xb = true)
    (hK : ∀ (v2 v4 v5 v6 v9 v10 v11 v12 v13 v14 v15 v27 v28 v29 v30 v31 v32 v33 v34 v35 v36 v37 v38 v39 v40 v41 v42 v43 v44 v45 v46 v47 v48 v49 v50 v51 v52 v53 v54 v55 v56 v57 v58 v59 v60 v61 v62 v63 v64 v65 v66 v67 v68 v69 v70 v71 v72 v73 v74 v75 v76 v77 v78 v79 v80 v81 v82 v83 v84 v85 v86 v87 v88 v89 v90 v91 v92 v93 v94 v95 v96 v97 v98 v99 v100 v101 v102 v103 v104 v105 v106 v107 v108 v109 v110 v111 v112 v113 v114 v115 v116 v117 v118 v119 v120 v121 v122 v123 v124 v125 v126 v127 v128 v129 v130 v131 v132 v133 v134 v135 v136 v137 v138 v139 v140 v141 v142 v143 v144 v145 v146 v147 v148 v149 v150 v151 v152 v153 v154 v155 v156 v157 v158 v159 v160 v161 v162 v163 v164 v165 v166 v167 v168 v169 v170 v171 v172 v173 v174 v175 v176 v177 v178 v179 v180 v181 v182 v183 v184 v185 v186 v187 v188 v189 v190 v191 v192 v193 v194 v195 v196 v197 v198 v199 v200 v201 v202 v203 v204 v205 v206 v207 v208 v209 v210 v211 v212 v213 v214 v215 v216 v217 v218 v219 v220 v221 v222 v223 v224 v225 v226 v227 v228 v229 v230 v231 v232 v233 : Value) (W : World), osRel w gq gx cs k v4 v5 v6 W → K ⟨#[u0, u1, v2, .pointer (some ⟨gq, 0, none⟩), v4, v5, v6, u7, .pointer (some ⟨gx, 0, none⟩), v9, v10, v11, v12, v13, v14, v15, u16, u17, u18, u19, u20, u21, u22, u23, u24, u25, .int .i64 kk, v27, v28, v29, v30, v31, v32, v33, v34, v35, v36, v37, v38, v39, v40, v41, v42, v43, v44, v45, v46, v47, v48, v49, v50, v51, v52, v53, v54, v55, v56, v57, v58, v59, v60, v61, v62, v63, v64, v65, v66, v67, v68, v69, v70, v71, v72, v73, v74, v75, v76, v77, v78, v79, v80, v81, v82, v83, v84, v85, v86, v87, v88, v89, v90, v91, v92, v93, v94, v95, v96, v97, v98, v99, v100, v101, v102, v103, v104, v105, v106, v107, v108, v109, v110, v111, v112, v113, v114, v115, v116, v117, v118, v119, v120, v121, v122, v123, v124, v125, v126, v127, v128, v129, v130, v131, v132, v133, v134, v135, v136, v137, v138, v139, v140, v141, v142, v143, v144, v145, v146, v147, v148, v149, v150, v151, v152, v153, v154, v155, v156, v157, v158, v159, v160, v161, v162, v163, v164, v165, v166, v167, v168, v169, v170, v171, v172, v173, v174, v175, v176, v177, v178, v179, v180, v181, v182, v183, v184, v185, v186, v187, v188, v189, v190, v191, v192, v193, v194, v195, v196, v197, v198, v199, v200, v201, v202, v203, v204, v205, v206, v207, v208, v209, v210, v211, v212, v213, v214, v215, v216, v217, v218, v219, v220, v221, v222, v223, v224, v225, v226, v227, v228, v229, v230, v231, v232, v233, u234, u235, u236, u237, u238, u239, u240, u241, u242, u243, u244, u245, u246, u247, u248, u249, u250, u251, u252, u253, u254, u255, u256, u257, u258, u259, u260, u261, u262, u263, u264, u265, u266, u267, u268, u269, u270], []⟩ W) : Code.wp Try.prog osSwitch (Exit.then K Q0) ⟨#[u0, u1, u2, .pointer (some ⟨gq, 0, none⟩), .string t, .bool q.cl, .int .i64 q.sent, u7, .pointer (some ⟨gx, 0, none⟩), u9, u10, u11, u12, u13, u14, u15, u16, u17, u18, u19, u20, u21, u22, u23, u24, u25, .int .i64 kk, u27, u28, u29, u30, u31, u32, u33, u34, u35, u36, u37, u38, u39, u40, u41, u42, u43, u44, u45, u46, u47, u48, u49, u50, u51, u52, u53, u54, u55, u56, u57, u58, u59, u60, u61, u62, u63, u64, u65, u66, u67, u68, u69, u70, u71, u72, u73, u74, u75, u76, u77, u78, u79, u80, u81, u82, u83, u84, u85, u86, u87, u88, u89, u90, u91, u92, u93, u94, u95, u96, u97, u98, u99, u100, u101, u102, u103, u104, u105, u106, u107, u108, u109, u110, u111, u112, u113, u114, u115, u116, u117, u118, u119, u120, u121, u122, u123, u124, u125, u126, u127, u128, u129, u130, u131, u132, u133, u134, u135, u136, u137, u138, u139, u140, u141, u142, u143, u144, u145, u146, u147, u148, u149, u150, u151, u152, u153, u154, u155, u156, u157, u158, u159, u160, u161, u162, u163, u164, u165, u166, u167, u168, u169, u170, u171, u172, u173, u174, u175, u176, u177, u178, u179, u180, u181, u182, u183, u184, u185, u186, u187, u188, u189, u190, u191, u192, u193, u194, u195, u196, u197, u198, u199, u200, u201, u202, u203, u204, u205, u206, u207, u208, u209, u210, u211, u212, u213, u214, u215, u216, u217, u218, u219, u220, u221, u222, u223, u224, u225, u226, u227, u228, u229, u230, u231, u232, u233, u234, u235, u236, u237, u238, u239, u240, u241, u242, u243, u244, u245, u246, u247, u248, u249, u250, u251, u252, u253, u254, u255, u256, u257, u258, u259, u260, u261, u262, u263, u264, u265, u266, u267, u268, u269, u270], []⟩ w4 := by
  have hts := hS.sz
  have d0 : (kk == 0) = false := by simp; omega
  have d1 : (kk == 1) = false := by simp; omega
  have d2 : (kk == 2) = false := by simp; omega
  have d3 : (kk == 3) = false := by simp; omega
  have ca := (hM.cells 2 rfl 1).trans hxa
  have cb := (hM.cells 2 rfl 2).trans hxb
  obtain ⟨sy, fi, b, z, hp, y1, y2, y3, y4, y5, y6, y7, y8, y9, y10⟩ := next_yes q t k xa xb hS hi
  have hb2 : q.base ≤ 4611686018427387904 := by have := hS.base; omega
  have HN := fun (W : World) (h : OPre W W gq v q v) => Next_any gq q v xa xb W h hS.ok hb2 ⟨hxa1, hxa2⟩ ⟨hxb1, hxb2⟩
  rw [hp, hi] at HN
  have HS3 := Lib.hid (hS.next xa xb)
  have E1 := Lib.hid (show (oNext q xa xb).cl = q.cl from rfl)
  have E2 := Lib.hid y8
  have HCU := Lib.hid (fun W (h : OAt W gq q v) => Cur_any gq q v W h)
  have HC3 := fun W (h : OAt W gq (oNext q xa xb) v) => Cur_any gq (oNext q xa xb) v W h
  have z0 : 0 ≤ q.cur := by have := hS.ok.uc; have := hS.ok.cs; omega
  have z2 : b.size ≤ 4096 := by
    by_cases h0 : 0 < b.size
    · obtain ⟨c, _, hc, hb⟩ := y10 h0
      have := oPiece_sz q xa xb hS.ok
      rw [hp] at this
      have : b.size ≤ 2048 := this
      omega
    · omega
  rw [y7] at HC3
  clear y7 y8 hi hp
  generalize oNext q xa xb = q3 at *
  have HS := Lib.hid hS
  clear hS
  have HN := Lib.hid HN
  have hcl : q.cl = true ∨ q.cl = false := by cases q.cl <;> simp
  generalize hqc : q.cl = qcl at *
  generalize hqs : q.sent = qs at *
  clear hqc hqs
  generalize q.cur = c at *
  have z3 : t.size ≤ 1152921504606846976 := by omega
  have f5 : (z == c) = false := by simp; omega
  have hsz : (sy = true ∧ fi = false ∧ b.size = 0 ∧ c = 0) ∨ (sy = false ∧ c ≠ 0) := by
    cases sy
    · right; refine ⟨rfl, ?_⟩; simpa using y2.symm
    · left
      have hc0 : c = 0 := by simpa using y2.symm
      have hb0 : b.size = 0 := by
        by_cases h0 : 0 < b.size
        · obtain ⟨c', h1, _⟩ := y10 h0; omega
        · omega
      refine ⟨rfl, ?_, hb0, hc0⟩
      cases fi
      · rfl
      · have := (y9 rfl).2; omega
  rcases hsz with ⟨rfl, rfl, hb0, rfl⟩ | ⟨rfl, hc0⟩
  · obtain rfl := bytes_nil hb0
    have hz : z = 1 := by rw [y4]; rfl
    subst hz
    have HC3 := Lib.hid HC3
    clear y2 y4 y9 y10 hb0
    conv => arg 2; whnf
    go_upto_region 14 with         (first
          | (go_at_call 23; refine (HCU.out _ (hM.at_ 0 rfl)).mono ?_; rintro e W ⟨rfl, rfl⟩; dsimp only)
          | (go_at_call 17; refine (HN.out _ (oq_hand hM)).mono ?_; rintro e W ⟨rfl, hM6⟩; replace hM := oq_put hM hM6; clear hM6; dsimp only)
          | (refine at_box_ ?_; refine wpList_box_mem rfl _ _ rfl _ rfl hM ?_; clear hM; intro gb W hM; first | (simp only [List.nil_append] at hM) | (simp only [List.cons_append, List.nil_append] at hM))
          | (refine at_alloc_ (T := 30) ?_; refine wpList_alloc_mem rfl 30 rfl _ zv_Piece _ rfl hM ?_; clear hM; intro gb W hM; first | (simp only [List.nil_append] at hM) | (simp only [List.cons_append, List.nil_append] at hM))
          | (refine at_load_ (T := 30) ?_; refine at_wanted_ (by go_simp) ?_; first | (refine wpList_loadg_mem (by go_simp) 30 _ rfl 0 _ _ _ hM rfl rfl _ Try.underlying30 rfl sz_Piece ?_) | (refine wpList_loadg_mem (by go_simp) 30 _ rfl 1 _ _ _ hM rfl rfl _ Try.underlying30 rfl sz_Piece ?_) | (refine wpList_loadg_mem (by go_simp) 30 _ rfl 2 _ _ _ hM rfl rfl _ Try.underlying30 rfl sz_Piece ?_) | (refine wpList_loadg_mem (by go_simp) 30 _ rfl 3 _ _ _ hM rfl rfl _ Try.underlying30 rfl sz_Piece ?_))
          | (refine at_store_ (T := 30) ?_; first | (refine wpList_store_mem rfl 30 _ _ rfl 0 _ _ _ _ hM rfl rfl rfl rfl sz_Piece rfl ?_; clear hM; intro W hM; simp only [List.set_cons_zero] at hM) | (refine wpList_store_mem rfl 30 _ _ rfl 1 _ _ _ _ hM rfl rfl rfl rfl sz_Piece rfl ?_; clear hM; intro W hM; simp only [List.set_cons_succ, List.set_cons_zero] at hM) | (refine wpList_store_mem rfl 30 _ _ rfl 2 _ _ _ _ hM rfl rfl rfl rfl sz_Piece rfl ?_; clear hM; intro W hM; simp only [List.set_cons_succ, List.set_cons_zero] at hM) | (refine wpList_store_mem rfl 30 _ _ rfl 3 _ _ _ _ hM rfl rfl rfl rfl sz_Piece rfl ?_; clear hM; intro W hM; simp only [List.set_cons_succ, List.set_cons_zero] at hM))
          | (refine at_load_ ?_; refine at_wanted_ (by go_simp) ?_; first | (refine wpList_loadf_mem (by go_simp) _ _ rfl (by kernel_rfl) 0 _ _ _ _ _ hM rfl rfl (by first | rfl | assumption) ?_) | (refine wpList_loadf_mem (by go_simp) _ _ rfl (by kernel_rfl) 1 _ _ _ _ _ hM rfl rfl (by first | rfl | assumption) ?_) | (refine wpList_loadf_mem (by go_simp) _ _ rfl (by kernel_rfl) 2 _ _ _ _ _ hM rfl rfl (by first | rfl | assumption) ?_) | (refine wpList_loadf_mem (by go_simp) _ _ rfl (by kernel_rfl) 3 _ _ _ _ _ hM rfl rfl (by first | rfl | assumption) ?_))
          | (refine at_store_ ?_; first | (refine wpList_store1_mem rfl _ _ _ rfl 0 _ _ _ _ _ hM rfl rfl (by first | ((conv => lhs; whnf); done) | ((conv => lhs; whnf); rfl)) (by rfl) (by rfl) (by kernel_rfl) rfl ?_; clear hM; intro W hM; simp only [List.set_cons_succ, List.set_cons_zero] at hM) | (refine wpList_store1_mem rfl _ _ _ rfl 1 _ _ _ _ _ hM rfl rfl (by first | ((conv => lhs; whnf); done) | ((conv => lhs; whnf); rfl)) (by rfl) (by rfl) (by kernel_rfl) rfl ?_; clear hM; intro W hM; simp only [List.set_cons_succ, List.set_cons_zero] at hM) | (refine wpList_store1_mem rfl _ _ _ rfl 2 _ _ _ _ _ hM rfl rfl (by first | ((conv => lhs; whnf); done) | ((conv => lhs; whnf); rfl)) (by rfl) (by rfl) (by kernel_rfl) rfl ?_; clear hM; intro W hM; simp only [List.set_cons_succ, List.set_cons_zero] at hM) | (refine wpList_store1_mem rfl _ _ _ rfl 3 _ _ _ _ _ hM rfl rfl (by first | ((conv => lhs; whnf); done) | ((conv => lhs; whnf); rfl)) (by rfl) (by rfl) (by kernel_rfl) rfl ?_; clear hM; intro W hM; simp only [List.set_cons_succ, List.set_cons_zero] at hM)))
    have c3 := hM.cells 3 rfl
    have l3 := hM.lt 3 rfl
    have ca := (hM.cells 2 rfl 1).trans hxa
    have cb := (hM.cells 2 rfl 2).trans hxb
    simp only [cPiece] at c3
    go_upto_region 21 with (go_at_call 23; refine (HC3.out _ (hM.at_ 0 rfl)).mono ?_; rintro e W9 ⟨rfl, rfl⟩; dsimp only)
    refine wp_region_later (by kernel_rfl) (by kernel_rfl) (fun hlc => ?_)
    repeat (go_big_quiet_step (fail))
    refine wpQuiet_nil ?_
    intro w9 hb9
    replace hM := hM.kept hb9
    clear hlc c3 l3 hb9 ca cb
    go_wp2_with fail
    all_goals
      unfold osRel
      exact ⟨q3, t, v, rfl, by rw [E1.out], by rw [E2.out]; (first | rfl | (congr 1; split <;> omega)), hM.take_ 3, HS3.out⟩
  · by_cases h0 : b.size = 0
    · obtain rfl := bytes_nil h0
      cases fi
      · have e0 : ((⟨#[]⟩ : ByteArray).size : Int) = 0 := rfl
        simp at y4
        omega
      · obtain ⟨rfl, e9⟩ := y9 rfl
        have hz : z = c + 1 := by rw [y4]; show c + 0 + 1 = c + 1; omega
        subst hz
        have e9' : c = (t.size : Int) + 1 := by have : c + 0 = (t.size : Int) + 1 := e9; omega
        subst e9'
        have HC3 := Lib.hid HC3
        have f1 : ((t.size : Int) + 1 == 0) = false := by simp; omega
        clear y2 y4 y9 y10 h0 e9
        conv => arg 2; whnf
        go_upto_region 14 with         (first
          | (go_at_call 23; refine (HCU.out _ (hM.at_ 0 rfl)).mono ?_; rintro e W ⟨rfl, rfl⟩; dsimp only)
          | (go_at_call 17; refine (HN.out _ (oq_hand hM)).mono ?_; rintro e W ⟨rfl, hM6⟩; replace hM := oq_put hM hM6; clear hM6; dsimp only)
          | (refine at_box_ ?_; refine wpList_box_mem rfl _ _ rfl _ rfl hM ?_; clear hM; intro gb W hM; first | (simp only [List.nil_append] at hM) | (simp only [List.cons_append, List.nil_append] at hM))
          | (refine at_alloc_ (T := 30) ?_; refine wpList_alloc_mem rfl 30 rfl _ zv_Piece _ rfl hM ?_; clear hM; intro gb W hM; first | (simp only [List.nil_append] at hM) | (simp only [List.cons_append, List.nil_append] at hM))
          | (refine at_load_ (T := 30) ?_; refine at_wanted_ (by go_simp) ?_; first | (refine wpList_loadg_mem (by go_simp) 30 _ rfl 0 _ _ _ hM rfl rfl _ Try.underlying30 rfl sz_Piece ?_) | (refine wpList_loadg_mem (by go_simp) 30 _ rfl 1 _ _ _ hM rfl rfl _ Try.underlying30 rfl sz_Piece ?_) | (refine wpList_loadg_mem (by go_simp) 30 _ rfl 2 _ _ _ hM rfl rfl _ Try.underlying30 rfl sz_Piece ?_) | (refine wpList_loadg_mem (by go_simp) 30 _ rfl 3 _ _ _ hM rfl rfl _ Try.underlying30 rfl sz_Piece ?_))
          | (refine at_store_ (T := 30) ?_; first | (refine wpList_store_mem rfl 30 _ _ rfl 0 _ _ _ _ hM rfl rfl rfl rfl sz_Piece rfl ?_; clear hM; intro W hM; simp only [List.set_cons_zero] at hM) | (refine wpList_store_mem rfl 30 _ _ rfl 1 _ _ _ _ hM rfl rfl rfl rfl sz_Piece rfl ?_; clear hM; intro W hM; simp only [List.set_cons_succ, List.set_cons_zero] at hM) | (refine wpList_store_mem rfl 30 _ _ rfl 2 _ _ _ _ hM rfl rfl rfl rfl sz_Piece rfl ?_; clear hM; intro W hM; simp only [List.set_cons_succ, List.set_cons_zero] at hM) | (refine wpList_store_mem rfl 30 _ _ rfl 3 _ _ _ _ hM rfl rfl rfl rfl sz_Piece rfl ?_; clear hM; intro W hM; simp only [List.set_cons_succ, List.set_cons_zero] at hM))
          | (refine at_load_ ?_; refine at_wanted_ (by go_simp) ?_; first | (refine wpList_loadf_mem (by go_simp) _ _ rfl (by kernel_rfl) 0 _ _ _ _ _ hM rfl rfl (by first | rfl | assumption) ?_) | (refine wpList_loadf_mem (by go_simp) _ _ rfl (by kernel_rfl) 1 _ _ _ _ _ hM rfl rfl (by first | rfl | assumption) ?_) | (refine wpList_loadf_mem (by go_simp) _ _ rfl (by kernel_rfl) 2 _ _ _ _ _ hM rfl rfl (by first | rfl | assumption) ?_) | (refine wpList_loadf_mem (by go_simp) _ _ rfl (by kernel_rfl) 3 _ _ _ _ _ hM rfl rfl (by first | rfl | assumption) ?_))
          | (refine at_store_ ?_; first | (refine wpList_store1_mem rfl _ _ _ rfl 0 _ _ _ _ _ hM rfl rfl (by first | ((conv => lhs; whnf); done) | ((conv => lhs; whnf); rfl)) (by rfl) (by rfl) (by kernel_rfl) rfl ?_; clear hM; intro W hM; simp only [List.set_cons_succ, List.set_cons_zero] at hM) | (refine wpList_store1_mem rfl _ _ _ rfl 1 _ _ _ _ _ hM rfl rfl (by first | ((conv => lhs; whnf); done) | ((conv => lhs; whnf); rfl)) (by rfl) (by rfl) (by kernel_rfl) rfl ?_; clear hM; intro W hM; simp only [List.set_cons_succ, List.set_cons_zero] at hM) | (refine wpList_store1_mem rfl _ _ _ rfl 2 _ _ _ _ _ hM rfl rfl (by first | ((conv => lhs; whnf); done) | ((conv => lhs; whnf); rfl)) (by rfl) (by rfl) (by kernel_rfl) rfl ?_; clear hM; intro W hM; simp only [List.set_cons_succ, List.set_cons_zero] at hM) | (refine wpList_store1_mem rfl _ _ _ rfl 3 _ _ _ _ _ hM rfl rfl (by first | ((conv => lhs; whnf); done) | ((conv => lhs; whnf); rfl)) (by rfl) (by rfl) (by kernel_rfl) rfl ?_; clear hM; intro W hM; simp only [List.set_cons_succ, List.set_cons_zero] at hM)))
        have c3 := hM.cells 3 rfl
        have l3 := hM.lt 3 rfl
        have ca := (hM.cells 2 rfl 1).trans hxa
        have cb := (hM.cells 2 rfl 2).trans hxb
        simp only [cPiece] at c3
        go_upto_region 21 with (go_at_call 23; refine (HC3.out _ (hM.at_ 0 rfl)).mono ?_; rintro e W9 ⟨rfl, rfl⟩; dsimp only)
        refine wp_region_later (by kernel_rfl) (by kernel_rfl) (fun hlc => ?_)
        repeat (go_big_quiet_step (fail))
        refine wpQuiet_nil ?_
        intro w9 hb9
        replace hM := hM.kept hb9
        clear hlc c3 l3 hb9 ca cb
        go_wp2_with fail
        all_goals
          unfold osRel
          exact ⟨q3, t, v, rfl, by rw [E1.out], by rw [E2.out]; (first | rfl | (congr 1; split <;> omega)), hM.take_ 3, HS3.out⟩
    · obtain ⟨n, e1, e2, e3⟩ := y10 (by omega)
      have e1' : c = (n : Int) + 1 := by omega
      subst e1'
      have e3' := e3.symm
      have f0 := str_some' (u := b) (by omega)
      have f00 := str_some (u := b) (by omega)
      have f1 : ((n : Int) + 1 == 0) = false := by simp; omega
      have f2 : 0 < b.size := by omega
      have g1 : decide ((n : Int) + 1 < 1) = false := by simp; omega
      have g2 : decide ((n : Int) < 0) = false := by simp
      have g3 : decide ((t.size : Int) < (n : Int) + (b.size : Int)) = false := by simp; omega
      have g4 : decide (t.size < n + b.size) = false := by simp; omega
      cases fi
      · have hz : z = (n : Int) + 1 + (b.size : Int) := by rw [y4]; simp
        subst hz
        have HC3 := Lib.hid HC3
        clear y2 y4 y9 y10 e1 e3 hc0 h0
        conv => arg 2; whnf
        go_upto_region 14 with         (first
          | (go_at_call 23; refine (HCU.out _ (hM.at_ 0 rfl)).mono ?_; rintro e W ⟨rfl, rfl⟩; dsimp only)
          | (go_at_call 17; refine (HN.out _ (oq_hand hM)).mono ?_; rintro e W ⟨rfl, hM6⟩; replace hM := oq_put hM hM6; clear hM6; dsimp only)
          | (refine at_box_ ?_; refine wpList_box_mem rfl _ _ rfl _ rfl hM ?_; clear hM; intro gb W hM; first | (simp only [List.nil_append] at hM) | (simp only [List.cons_append, List.nil_append] at hM))
          | (refine at_alloc_ (T := 30) ?_; refine wpList_alloc_mem rfl 30 rfl _ zv_Piece _ rfl hM ?_; clear hM; intro gb W hM; first | (simp only [List.nil_append] at hM) | (simp only [List.cons_append, List.nil_append] at hM))
          | (refine at_load_ (T := 30) ?_; refine at_wanted_ (by go_simp) ?_; first | (refine wpList_loadg_mem (by go_simp) 30 _ rfl 0 _ _ _ hM rfl rfl _ Try.underlying30 rfl sz_Piece ?_) | (refine wpList_loadg_mem (by go_simp) 30 _ rfl 1 _ _ _ hM rfl rfl _ Try.underlying30 rfl sz_Piece ?_) | (refine wpList_loadg_mem (by go_simp) 30 _ rfl 2 _ _ _ hM rfl rfl _ Try.underlying30 rfl sz_Piece ?_) | (refine wpList_loadg_mem (by go_simp) 30 _ rfl 3 _ _ _ hM rfl rfl _ Try.underlying30 rfl sz_Piece ?_))
          | (refine at_store_ (T := 30) ?_; first | (refine wpList_store_mem rfl 30 _ _ rfl 0 _ _ _ _ hM rfl rfl rfl rfl sz_Piece rfl ?_; clear hM; intro W hM; simp only [List.set_cons_zero] at hM) | (refine wpList_store_mem rfl 30 _ _ rfl 1 _ _ _ _ hM rfl rfl rfl rfl sz_Piece rfl ?_; clear hM; intro W hM; simp only [List.set_cons_succ, List.set_cons_zero] at hM) | (refine wpList_store_mem rfl 30 _ _ rfl 2 _ _ _ _ hM rfl rfl rfl rfl sz_Piece rfl ?_; clear hM; intro W hM; simp only [List.set_cons_succ, List.set_cons_zero] at hM) | (refine wpList_store_mem rfl 30 _ _ rfl 3 _ _ _ _ hM rfl rfl rfl rfl sz_Piece rfl ?_; clear hM; intro W hM; simp only [List.set_cons_succ, List.set_cons_zero] at hM))
          | (refine at_load_ ?_; refine at_wanted_ (by go_simp) ?_; first | (refine wpList_loadf_mem (by go_simp) _ _ rfl (by kernel_rfl) 0 _ _ _ _ _ hM rfl rfl (by first | rfl | assumption) ?_) | (refine wpList_loadf_mem (by go_simp) _ _ rfl (by kernel_rfl) 1 _ _ _ _ _ hM rfl rfl (by first | rfl | assumption) ?_) | (refine wpList_loadf_mem (by go_simp) _ _ rfl (by kernel_rfl) 2 _ _ _ _ _ hM rfl rfl (by first | rfl | assumption) ?_) | (refine wpList_loadf_mem (by go_simp) _ _ rfl (by kernel_rfl) 3 _ _ _ _ _ hM rfl rfl (by first | rfl | assumption) ?_))
          | (refine at_store_ ?_; first | (refine wpList_store1_mem rfl _ _ _ rfl 0 _ _ _ _ _ hM rfl rfl (by first | ((conv => lhs; whnf); done) | ((conv => lhs; whnf); rfl)) (by rfl) (by rfl) (by kernel_rfl) rfl ?_; clear hM; intro W hM; simp only [List.set_cons_succ, List.set_cons_zero] at hM) | (refine wpList_store1_mem rfl _ _ _ rfl 1 _ _ _ _ _ hM rfl rfl (by first | ((conv => lhs; whnf); done) | ((conv => lhs; whnf); rfl)) (by rfl) (by rfl) (by kernel_rfl) rfl ?_; clear hM; intro W hM; simp only [List.set_cons_succ, List.set_cons_zero] at hM) | (refine wpList_store1_mem rfl _ _ _ rfl 2 _ _ _ _ _ hM rfl rfl (by first | ((conv => lhs; whnf); done) | ((conv => lhs; whnf); rfl)) (by rfl) (by rfl) (by kernel_rfl) rfl ?_; clear hM; intro W hM; simp only [List.set_cons_succ, List.set_cons_zero] at hM) | (refine wpList_store1_mem rfl _ _ _ rfl 3 _ _ _ _ _ hM rfl rfl (by first | ((conv => lhs; whnf); done) | ((conv => lhs; whnf); rfl)) (by rfl) (by rfl) (by kernel_rfl) rfl ?_; clear hM; intro W hM; simp only [List.set_cons_succ, List.set_cons_zero] at hM)))
        have c3 := hM.cells 3 rfl
        have l3 := hM.lt 3 rfl
        have ca := (hM.cells 2 rfl 1).trans hxa
        have cb := (hM.cells 2 rfl 2).trans hxb
        simp only [cPiece] at c3
        go_upto_region 21 with (go_at_call 23; refine (HC3.out _ (hM.at_ 0 rfl)).mono ?_; rintro e W9 ⟨rfl, rfl⟩; dsimp only)
        refine wp_region_later (by kernel_rfl) (by kernel_rfl) (fun hlc => ?_)
        repeat (go_big_quiet_step (fail))
        refine wpQuiet_nil ?_
        intro w9 hb9
        replace hM := hM.kept hb9
        clear hlc c3 l3 hb9 ca cb
        go_wp2_with fail
        all_goals
          unfold osRel
          exact ⟨q3, t, v, rfl, by rw [E1.out], by rw [E2.out]; (first | rfl | (congr 1; split <;> omega)), hM.take_ 3, HS3.out⟩
      · have hz : z = (n : Int) + 1 + (b.size : Int) + 1 := by rw [y4]; simp
        subst hz
        obtain ⟨rfl, e9⟩ := y9 rfl
        have HC3 := Lib.hid HC3
        have f3 : ((n : Int) + 1 + (b.size : Int) != (t.size : Int) + 1) = false := by simp; omega
        have f4 : ((n : Int) + 1 + (b.size : Int) == (t.size : Int) + 1) = true := by simp; omega
        clear y2 y4 y9 y10 e1 e3 hc0 h0 e9
        conv => arg 2; whnf
        go_upto_region 14 with         (first
          | (go_at_call 23; refine (HCU.out _ (hM.at_ 0 rfl)).mono ?_; rintro e W ⟨rfl, rfl⟩; dsimp only)
          | (go_at_call 17; refine (HN.out _ (oq_hand hM)).mono ?_; rintro e W ⟨rfl, hM6⟩; replace hM := oq_put hM hM6; clear hM6; dsimp only)
          | (refine at_box_ ?_; refine wpList_box_mem rfl _ _ rfl _ rfl hM ?_; clear hM; intro gb W hM; first | (simp only [List.nil_append] at hM) | (simp only [List.cons_append, List.nil_append] at hM))
          | (refine at_alloc_ (T := 30) ?_; refine wpList_alloc_mem rfl 30 rfl _ zv_Piece _ rfl hM ?_; clear hM; intro gb W hM; first | (simp only [List.nil_append] at hM) | (simp only [List.cons_append, List.nil_append] at hM))
          | (refine at_load_ (T := 30) ?_; refine at_wanted_ (by go_simp) ?_; first | (refine wpList_loadg_mem (by go_simp) 30 _ rfl 0 _ _ _ hM rfl rfl _ Try.underlying30 rfl sz_Piece ?_) | (refine wpList_loadg_mem (by go_simp) 30 _ rfl 1 _ _ _ hM rfl rfl _ Try.underlying30 rfl sz_Piece ?_) | (refine wpList_loadg_mem (by go_simp) 30 _ rfl 2 _ _ _ hM rfl rfl _ Try.underlying30 rfl sz_Piece ?_) | (refine wpList_loadg_mem (by go_simp) 30 _ rfl 3 _ _ _ hM rfl rfl _ Try.underlying30 rfl sz_Piece ?_))
          | (refine at_store_ (T := 30) ?_; first | (refine wpList_store_mem rfl 30 _ _ rfl 0 _ _ _ _ hM rfl rfl rfl rfl sz_Piece rfl ?_; clear hM; intro W hM; simp only [List.set_cons_zero] at hM) | (refine wpList_store_mem rfl 30 _ _ rfl 1 _ _ _ _ hM rfl rfl rfl rfl sz_Piece rfl ?_; clear hM; intro W hM; simp only [List.set_cons_succ, List.set_cons_zero] at hM) | (refine wpList_store_mem rfl 30 _ _ rfl 2 _ _ _ _ hM rfl rfl rfl rfl sz_Piece rfl ?_; clear hM; intro W hM; simp only [List.set_cons_succ, List.set_cons_zero] at hM) | (refine wpList_store_mem rfl 30 _ _ rfl 3 _ _ _ _ hM rfl rfl rfl rfl sz_Piece rfl ?_; clear hM; intro W hM; simp only [List.set_cons_succ, List.set_cons_zero] at hM))
          | (refine at_load_ ?_; refine at_wanted_ (by go_simp) ?_; first | (refine wpList_loadf_mem (by go_simp) _ _ rfl (by kernel_rfl) 0 _ _ _ _ _ hM rfl rfl (by first | rfl | assumption) ?_) | (refine wpList_loadf_mem (by go_simp) _ _ rfl (by kernel_rfl) 1 _ _ _ _ _ hM rfl rfl (by first | rfl | assumption) ?_) | (refine wpList_loadf_mem (by go_simp) _ _ rfl (by kernel_rfl) 2 _ _ _ _ _ hM rfl rfl (by first | rfl | assumption) ?_) | (refine wpList_loadf_mem (by go_simp) _ _ rfl (by kernel_rfl) 3 _ _ _ _ _ hM rfl rfl (by first | rfl | assumption) ?_))
          | (refine at_store_ ?_; first | (refine wpList_store1_mem rfl _ _ _ rfl 0 _ _ _ _ _ hM rfl rfl (by first | ((conv => lhs; whnf); done) | ((conv => lhs; whnf); rfl)) (by rfl) (by rfl) (by kernel_rfl) rfl ?_; clear hM; intro W hM; simp only [List.set_cons_succ, List.set_cons_zero] at hM) | (refine wpList_store1_mem rfl _ _ _ rfl 1 _ _ _ _ _ hM rfl rfl (by first | ((conv => lhs; whnf); done) | ((conv => lhs; whnf); rfl)) (by rfl) (by rfl) (by kernel_rfl) rfl ?_; clear hM; intro W hM; simp only [List.set_cons_succ, List.set_cons_zero] at hM) | (refine wpList_store1_mem rfl _ _ _ rfl 2 _ _ _ _ _ hM rfl rfl (by first | ((conv => lhs; whnf); done) | ((conv => lhs; whnf); rfl)) (by rfl) (by rfl) (by kernel_rfl) rfl ?_; clear hM; intro W hM; simp only [List.set_cons_succ, List.set_cons_zero] at hM) | (refine wpList_store1_mem rfl _ _ _ rfl 3 _ _ _ _ _ hM rfl rfl (by first | ((conv => lhs; whnf); done) | ((conv => lhs; whnf); rfl)) (by rfl) (by rfl) (by kernel_rfl) rfl ?_; clear hM; intro W hM; simp only [List.set_cons_succ, List.set_cons_zero] at hM)))
        have c3 := hM.cells 3 rfl
        have l3 := hM.lt 3 rfl
        have ca := (hM.cells 2 rfl 1).trans hxa
        have cb := (hM.cells 2 rfl 2).trans hxb
        simp only [cPiece] at c3
        go_upto_region 21 with (go_at_call 23; refine (HC3.out _ (hM.at_ 0 rfl)).mono ?_; rintro e W9 ⟨rfl, rfl⟩; dsimp only)
        refine wp_region_later (by kernel_rfl) (by kernel_rfl) (fun hlc => ?_)
        repeat (go_big_quiet_step (fail))
        refine wpQuiet_nil ?_
        intro w9 hb9
        replace hM := hM.kept hb9
        clear hlc c3 l3 hb9 ca cb
        go_wp2_with fail
        all_goals
          unfold osRel
          exact ⟨q3, t, v, rfl, by rw [E1.out], by rw [E2.out]; (first | rfl | (congr 1; split <;> omega)), hM.take_ 3, HS3.out⟩
end
end Go.Proofs.Ytmcdmgnpbhkdhaa
