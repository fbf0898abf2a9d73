/- PollTold, the switch of a round: all of it. Written by my genpta.py. -/
import Derived.Test.YtgdfjkdcdfmifaaPtB
import Derived.Test.YtgdfjkdcdfmifaaPtC
import Derived.Test.YtgdfjkdcdfmifaaPtD
namespace Go.Proofs.Ytgdfjkdcdfmifaa
open Go.RowKit Go.Lib
set_option linter.unusedVariables false
set_option linter.unusedSimpArgs false
set_option linter.unusedSectionVars false

theorem wp_split {P : Program} {c : Code} {Q : Exit → Act → World → Prop} {a : Act} {w : World} (h : Code.wp P c (Exit.then (fun a w => Q .normal a w) Q) a w) : Code.wp P c Q a w := by
  have e : Exit.then (fun a w => Q .normal a w) Q = Q := by
    funext e a w
    cases e <;> rfl
  rw [e] at h
  exact h

section
variable {u0 u1 u2 u5 u8 u9 u10 u11 u12 u13 u14 u15 u16 u17 u18 u19 u20 u21 u22 u23 u24 u25 u26 u27 u28 u29 u30 u31 u32 u33 u34 u35 u37 u38 u39 u40 u41 u42 u43 u44 u45 u46 u47 u48 u49 u50 u51 u52 u53 u54 u55 u56 u57 u58 u59 u60 u61 u62 u63 u64 u65 u66 u67 u68 u69 u70 u71 u72 u73 u74 u75 u76 u77 u78 u79 u80 u81 u82 u83 u84 u85 u86 u87 u88 u89 u90 u91 u92 u93 u94 u95 u96 u97 u98 u99 u100 u101 u102 u103 u104 u105 u106 u107 u108 u109 u110 u111 u112 u113 u114 u115 u116 u117 u118 u119 u120 u121 u122 u123 u124 u125 u126 u127 u128 u129 u130 u131 u132 u133 u134 u135 u136 u137 u138 u139 u140 u141 u142 u143 u144 u145 u146 u147 u148 u149 u150 u151 u152 u153 u154 u155 u156 u157 u158 u159 u160 u161 u162 u163 u164 u165 u166 u167 u168 u169 u170 u171 u172 u173 u174 u175 u176 u177 u178 u179 u180 u181 u182 u183 u184 u185 u186 u187 u188 u189 u190 u191 u192 u193 u194 u195 u196 u197 u198 u199 u200 u201 u202 u203 u204 u205 u206 u207 u208 u209 u210 u211 u212 u213 u214 u215 u216 u217 u218 u219 : Value} (w w4 : World) (g gm gx : Nat) (v sv : Value) (ws zs : List KW) (m : List (Int × Nat)) (bs : Int → Nat) (cs : List Value) (kk xa xb : Int) (xo : Bool) (Q0 : Exit → Act → World → Prop)
  (hM : Mem w w4 (ptM g gm gx cs v ws m bs zs)) (HI : Hid (PInv ws)) (HA : Hid (Acc m bs ws zs)) (hxa : cs[1]? = some (.int .i64 xa)) (hxb : cs[2]? = some (.int .i64 xb)) (hxo : cs[3]? = some (.bool xo)) (HKO : Hid (KeyOk Try.prog 3 fInt xa))
  (HQ0 : Hid (∀ c d v a w, Q0 (.panic c) (Act.put a d v) w → Q0 (.panic c) a w))
  (hK : ∀ (v2 v7 v8 v9 v10 v12 v13 v14 v15 v37 v38 v39 v40 v41 v42 v43 v44 v45 v46 v47 v48 v49 v50 v51 v52 v53 v54 v55 v56 v57 v58 v59 v60 v61 v62 v63 v64 v65 v66 v67 v68 v69 v70 v71 v72 v73 v74 v75 v76 v77 v78 v79 v80 v81 v82 v83 v84 v85 v86 v87 v88 v89 v90 v91 v92 v93 v94 v95 v96 v97 v98 v99 v100 v101 v102 v103 v104 v105 v106 v107 v108 v109 v110 v111 v112 v113 v114 v115 v116 v117 v118 v119 v120 v121 v122 v123 v124 v125 v126 v127 v128 v129 v130 v131 v132 v133 v134 v135 v136 v137 v138 v139 v140 v141 v142 v143 v144 v145 v146 v147 v148 v149 v150 v151 v152 v153 v154 v155 v156 v157 v158 v159 v160 v161 v162 v163 v164 v165 v166 v167 v168 v169 v170 v171 v172 v173 v174 v175 v176 v177 v178 v179 v180 v181 v182 v183 v184 v185 v186 v187 v188 v189 v190 v191 v192 v193 v194 v195 v196 v197 v198 v199 v200 v201 v202 v203 v204 v205 v206 v207 v208 v209 v210 v211 v212 v213 v214 v215 v216 v217 v218 : Value) (W : World), ptRel w g gm gx cs W → Q0 .normal ⟨#[u0, u1, v2, .pointer (some ⟨g, 0, none⟩), .map (some gm), u5, .pointer (some ⟨gx, 0, none⟩), v7, v8, v9, v10, u11, v12, v13, v14, v15, u16, u17, u18, u19, u20, u21, u22, u23, u24, u25, u26, u27, u28, u29, u30, u31, u32, u33, u34, u35, .int .i64 kk, v37, v38, v39, v40, v41, v42, v43, v44, v45, v46, v47, v48, v49, v50, v51, v52, v53, v54, v55, v56, v57, v58, v59, v60, v61, v62, v63, v64, v65, v66, v67, v68, v69, v70, v71, v72, v73, v74, v75, v76, v77, v78, v79, v80, v81, v82, v83, v84, v85, v86, v87, v88, v89, v90, v91, v92, v93, v94, v95, v96, v97, v98, v99, v100, v101, v102, v103, v104, v105, v106, v107, v108, v109, v110, v111, v112, v113, v114, v115, v116, v117, v118, v119, v120, v121, v122, v123, v124, v125, v126, v127, v128, v129, v130, v131, v132, v133, v134, v135, v136, v137, v138, v139, v140, v141, v142, v143, v144, v145, v146, v147, v148, v149, v150, v151, v152, v153, v154, v155, v156, v157, v158, v159, v160, v161, v162, v163, v164, v165, v166, v167, v168, v169, v170, v171, v172, v173, v174, v175, v176, v177, v178, v179, v180, v181, v182, v183, v184, v185, v186, v187, v188, v189, v190, v191, v192, v193, v194, v195, v196, v197, v198, v199, v200, v201, v202, v203, v204, v205, v206, v207, v208, v209, v210, v211, v212, v213, v214, v215, v216, v217, v218, u219], []⟩ W)
include hM HI HA hxa hxb hxo HKO HQ0 hK

theorem pt_all_old (hd : Hid (kk = 0 ∨ kk = 1 ∨ kk = 2 ∨ kk = 3 ∨ kk = 4)) (k0 : Nat) (x : KW) (hat : atW ws xa = k0) (hk : ws[k0]? = some x) (hx : x.fd = xa) (hsv : sv = .pointer (some ⟨bs xa, 0, none⟩)) : Code.wp Try.prog ptSwitch Q0 ⟨#[u0, u1, u2, .pointer (some ⟨g, 0, none⟩), .map (some gm), u5, .pointer (some ⟨gx, 0, none⟩), sv, u8, u9, u10, u11, u12, u13, u14, u15, u16, u17, u18, u19, u20, u21, u22, u23, u24, u25, u26, u27, u28, u29, u30, u31, u32, u33, u34, u35, .int .i64 kk, u37, u38, u39, u40, u41, u42, u43, u44, u45, u46, u47, u48, u49, u50, u51, u52, u53, u54, u55, u56, u57, u58, u59, u60, u61, u62, u63, u64, u65, u66, u67, u68, u69, u70, u71, u72, u73, u74, u75, u76, u77, u78, u79, u80, u81, u82, u83, u84, u85, u86, u87, u88, u89, u90, u91, u92, u93, u94, u95, u96, u97, u98, u99, u100, u101, u102, u103, u104, u105, u106, u107, u108, u109, u110, u111, u112, u113, u114, u115, u116, u117, u118, u119, u120, u121, u122, u123, u124, u125, u126, u127, u128, u129, u130, u131, u132, u133, u134, u135, u136, u137, u138, u139, u140, u141, u142, u143, u144, u145, u146, u147, u148, u149, u150, u151, u152, u153, u154, u155, u156, u157, u158, u159, u160, u161, u162, u163, u164, u165, u166, u167, u168, u169, u170, u171, u172, u173, u174, u175, u176, u177, u178, u179, u180, u181, u182, u183, u184, u185, u186, u187, u188, u189, u190, u191, u192, u193, u194, u195, u196, u197, u198, u199, u200, u201, u202, u203, u204, u205, u206, u207, u208, u209, u210, u211, u212, u213, u214, u215, u216, u217, u218, u219], []⟩ w4 := by
  refine wp_split ?_
  rcases hd.out with h | h | h | h | h
  · by_cases hf : 0 ≤ xa ∧ xa < 16
    · exact pt_set_old w w4 g gm gx v _ ws zs m bs cs _ xa xb xo (fun a w => Q0 .normal a w) Q0 hM HI HA hxa hxb hxo HKO HQ0 hK h k0 x hf hat hk hx hsv
    · exact pt_set_no w w4 g gm gx v _ ws zs m bs cs _ xa xb xo (fun a w => Q0 .normal a w) Q0 hM HI HA hxa hxb hxo HKO HQ0 hK h (by omega)
  · exact pt_drop_old w w4 g gm gx v _ ws zs m bs cs _ xa xb xo (fun a w => Q0 .normal a w) Q0 hM HI HA hxa hxb hxo HKO HQ0 hK h k0 x hat hk hx
  · exact pt_note_old w w4 g gm gx v _ ws zs m bs cs _ xa xb xo (fun a w => Q0 .normal a w) Q0 hM HI HA hxa hxb hxo HKO HQ0 hK (.inl h) k0 x hat hk hx hsv
  · exact pt_note_old w w4 g gm gx v _ ws zs m bs cs _ xa xb xo (fun a w => Q0 .normal a w) Q0 hM HI HA hxa hxb hxo HKO HQ0 hK (.inr h) k0 x hat hk hx hsv
  · exact pt_wait w w4 g gm gx v _ ws zs m bs cs _ xa xb xo (fun a w => Q0 .normal a w) Q0 hM HI HA hxa hxb hxo HKO HQ0 hK h 

theorem pt_all_none (hd : Hid (kk = 0 ∨ kk = 1 ∨ kk = 2 ∨ kk = 3 ∨ kk = 4)) (hat : atW ws xa < 0) (hno : ∀ x ∈ ws, x.fd ≠ xa) (hsv : sv = .pointer none) : Code.wp Try.prog ptSwitch Q0 ⟨#[u0, u1, u2, .pointer (some ⟨g, 0, none⟩), .map (some gm), u5, .pointer (some ⟨gx, 0, none⟩), sv, u8, u9, u10, u11, u12, u13, u14, u15, u16, u17, u18, u19, u20, u21, u22, u23, u24, u25, u26, u27, u28, u29, u30, u31, u32, u33, u34, u35, .int .i64 kk, u37, u38, u39, u40, u41, u42, u43, u44, u45, u46, u47, u48, u49, u50, u51, u52, u53, u54, u55, u56, u57, u58, u59, u60, u61, u62, u63, u64, u65, u66, u67, u68, u69, u70, u71, u72, u73, u74, u75, u76, u77, u78, u79, u80, u81, u82, u83, u84, u85, u86, u87, u88, u89, u90, u91, u92, u93, u94, u95, u96, u97, u98, u99, u100, u101, u102, u103, u104, u105, u106, u107, u108, u109, u110, u111, u112, u113, u114, u115, u116, u117, u118, u119, u120, u121, u122, u123, u124, u125, u126, u127, u128, u129, u130, u131, u132, u133, u134, u135, u136, u137, u138, u139, u140, u141, u142, u143, u144, u145, u146, u147, u148, u149, u150, u151, u152, u153, u154, u155, u156, u157, u158, u159, u160, u161, u162, u163, u164, u165, u166, u167, u168, u169, u170, u171, u172, u173, u174, u175, u176, u177, u178, u179, u180, u181, u182, u183, u184, u185, u186, u187, u188, u189, u190, u191, u192, u193, u194, u195, u196, u197, u198, u199, u200, u201, u202, u203, u204, u205, u206, u207, u208, u209, u210, u211, u212, u213, u214, u215, u216, u217, u218, u219], []⟩ w4 := by
  refine wp_split ?_
  rcases hd.out with h | h | h | h | h
  · by_cases hf : 0 ≤ xa ∧ xa < 16
    · exact pt_set_new w w4 g gm gx v _ ws zs m bs cs _ xa xb xo (fun a w => Q0 .normal a w) Q0 hM HI HA hxa hxb hxo HKO HQ0 hK h hf hat hno hsv
    · exact pt_set_no w w4 g gm gx v _ ws zs m bs cs _ xa xb xo (fun a w => Q0 .normal a w) Q0 hM HI HA hxa hxb hxo HKO HQ0 hK h (by omega)
  · exact pt_drop_none w w4 g gm gx v _ ws zs m bs cs _ xa xb xo (fun a w => Q0 .normal a w) Q0 hM HI HA hxa hxb hxo HKO HQ0 hK h hat hno
  · exact pt_note_none w w4 g gm gx v _ ws zs m bs cs _ xa xb xo (fun a w => Q0 .normal a w) Q0 hM HI HA hxa hxb hxo HKO HQ0 hK (.inl h) hat hno hsv
  · exact pt_note_none w w4 g gm gx v _ ws zs m bs cs _ xa xb xo (fun a w => Q0 .normal a w) Q0 hM HI HA hxa hxb hxo HKO HQ0 hK (.inr h) hat hno hsv
  · exact pt_wait w w4 g gm gx v _ ws zs m bs cs _ xa xb xo (fun a w => Q0 .normal a w) Q0 hM HI HA hxa hxb hxo HKO HQ0 hK h 

end
end Go.Proofs.Ytgdfjkdcdfmifaa
