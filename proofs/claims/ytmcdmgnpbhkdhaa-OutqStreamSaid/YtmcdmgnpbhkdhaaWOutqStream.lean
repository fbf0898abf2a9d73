/- The walk of OutqStream: it returns true. -/
import Derived.Test.YtmcdmgnpbhkdhaaOutqV
import Derived.Deep.CutBlock
namespace Go.Proofs.Ytmcdmgnpbhkdhaa
open Go.RowKit Go.Lib
set_option linter.unusedVariables false

set_option maxRecDepth 100000 in
set_option maxHeartbeats 8000000 in
theorem w_OutqStream (A0 : Option Addr) (n0 c0 : Nat) (css0 : Nat → List Value) (w : World) (hR0 : Rows_ w A0 n0 ksStep css0) (hl0 : n0 ≤ 140737488351232) :
    Calls Try.prog 4 #[.slice A0 n0 c0] w fun e w' => e = .returned (.bool true) ∧ Below w.heap.size w w' := by
  go_enter Try.func4, Try.ntmps4
  go_wp2_with fail
  refine (newq_any _).mono ?_
  rintro e W1 ⟨gq, rfl, hM1⟩
  go_wp2_with fail
  go_loopg [21, 4, 5, 6] n0 (fun gh i al sh se wr => ∃ (k : Nat) (q : OQ) (t : ByteArray) (v : Value), gh = n0 - k ∧ k ≤ n0 ∧ i = .int .i64 k ∧ al = .string t ∧ sh = .bool q.cl ∧ se = .int .i64 q.sent ∧ Mem w wr [oqA gq q v, oqB q v] ∧ SS q t k)
  case atStart => exact ⟨0, newOQ, ⟨#[]⟩, _, by omega, by omega, rfl, rfl, rfl, rfl, hM1, ss_new⟩
  case round =>
    obtain ⟨k, q, t, v, hgk, hk, rfl, rfl, rfl, rfl, hM, hS⟩ := hrel
    have HGK := Lib.hid hgk
    clear hgk
    have hts := hS.sz
    by_cases hlt : k < n0
    · have hBk := hM.b
      obtain ⟨b, off, hA, hrg⟩ := hR0.at_ k hlt
      subst hA
      have hrg : wr.rangeAt b (off + k * 45) (css0 k) := range_kept hrg hBk
      have hokx := hR0.ok k hlt
      have hlen : (css0 k).length = 45 := okAll_len hokx
      have hone := all_oneCell_toArray (okAll_one hokx)
      have hi1 : (Try.prog.info? 50).map (·.size) = some (css0 k).length := by rw [hlen]; exact info_Step
      have hi2 : (Try.prog.info? 50).map (·.size) = some (css0 k).toArray.size := by rw [List.size_toArray]; exact hi1
      go_upto_region 8 with (first | (refine wpList_load_mid rfl 50 (.tmp 23) rfl b (off + k * 45) rfl (css0 k) _ hrg Try.underlying50 rfl hi1 ?_) | (refine wpList_store_mid rfl 50 (.tmp 8) (.tmp 24) rfl _ 0 (css0 k).toArray rfl rfl (there_new _ _ _ _ (by rw [List.size_toArray, hlen]; exact Nat.le_refl _)) hi2 hone ?_))
      refine wp_gen (fun W => MemX noE w W [oqA gq q v, oqB q v, atR wr.heap.size 50 (css0 k)]) ?hgen ?_
      case hgen => exact hM.boxed _ _ _ (by rw [hlen]; rfl)
      intro W2 hM2
      obtain ⟨kd, hkd, hkd1, hkd2⟩ := step_int hokx 0 rfl
      obtain ⟨xa, hxa, hxa1, hxa2⟩ := step_int hokx 1 rfl
      obtain ⟨xb, hxb, hxb1, hxb2⟩ := step_int hokx 2 rfl
      obtain ⟨xs, hxs, hxs1⟩ := step_str hokx 4 rfl
      go_wp2_with (refine wpList_load_mid rfl 50 (.tmp 8) rfl wr.heap.size 0 rfl (css0 k) _ (hM2.range 2 rfl) Try.underlying50 rfl hi1 ?_)
      refine (Of_any (css0 k) kd 6 _ hkd hkd1 hkd2 (by omega) (by omega)).mono ?_
      rintro e w4 ⟨rfl, hB4⟩
      have hM4 := hM2.kept hB4
      have ca : w4.cell? ⟨wr.heap.size, 1, none⟩ = some (.int .i64 xa) := (hM4.cells 2 rfl 1).trans hxa
      have cb : w4.cell? ⟨wr.heap.size, 2, none⟩ = some (.int .i64 xb) := (hM4.cells 2 rfl 2).trans hxb
      have cs : w4.cell? ⟨wr.heap.size, 4, none⟩ = some (.string xs) := (hM4.cells 2 rfl 4).trans hxs
      clear hM2 hM hB4 hBk
      have hd : kd % 6 = 0 ∨ kd % 6 = 1 ∨ kd % 6 = 2 ∨ kd % 6 = 3 ∨ 4 ≤ kd % 6 := by omega
      go_upto_block 2 with (fail)
      go_cut [4, 5, 6] (fun al sh se W => osRel w gq wr.heap.size (css0 k) k al sh se W)
      case first =>
        rcases hd with h | h | h | h | hd1
        · refine os_zero w w4 gq wr.heap.size k q t v (css0 k) (kd % 6) xa xb xs _ _ hM4 hS (by omega) hxa hxb hxs hxs1 hxa1 hxa2 hxb1 hxb2 ?_ h
          intro v2 v4 v5 v6 v9 v10 v11 v12 v13 v14 v15 v27 v28 v29 v30 v31 v32 v33 v34 v35 v36 v37 v38 v39 v40 v41 v42 v43 v44 v45 v46 v47 v48 v49 v50 v51 v52 v53 v54 v55 v56 v57 v58 v59 v60 v61 v62 v63 v64 v65 v66 v67 v68 v69 v70 v71 v72 v73 v74 v75 v76 v77 v78 v79 v80 v81 v82 v83 v84 v85 v86 v87 v88 v89 v90 v91 v92 v93 v94 v95 v96 v97 v98 v99 v100 v101 v102 v103 v104 v105 v106 v107 v108 v109 v110 v111 v112 v113 v114 v115 v116 v117 v118 v119 v120 v121 v122 v123 v124 v125 v126 v127 v128 v129 v130 v131 v132 v133 v134 v135 v136 v137 v138 v139 v140 v141 v142 v143 v144 v145 v146 v147 v148 v149 v150 v151 v152 v153 v154 v155 v156 v157 v158 v159 v160 v161 v162 v163 v164 v165 v166 v167 v168 v169 v170 v171 v172 v173 v174 v175 v176 v177 v178 v179 v180 v181 v182 v183 v184 v185 v186 v187 v188 v189 v190 v191 v192 v193 v194 v195 v196 v197 v198 v199 v200 v201 v202 v203 v204 v205 v206 v207 v208 v209 v210 v211 v212 v213 v214 v215 v216 v217 v218 v219 v220 v221 v222 v223 v224 v225 v226 v227 v228 v229 v230 v231 v232 v233 W hrel
          go_step
          go_meet
          case rel => exact hrel
        · refine os_one w w4 gq wr.heap.size k q t v (css0 k) (kd % 6) xa xb xs _ _ hM4 hS (by omega) hxa hxb hxs hxs1 hxa1 hxa2 hxb1 hxb2 ?_ h
          intro v2 v4 v5 v6 v9 v10 v11 v12 v13 v14 v15 v27 v28 v29 v30 v31 v32 v33 v34 v35 v36 v37 v38 v39 v40 v41 v42 v43 v44 v45 v46 v47 v48 v49 v50 v51 v52 v53 v54 v55 v56 v57 v58 v59 v60 v61 v62 v63 v64 v65 v66 v67 v68 v69 v70 v71 v72 v73 v74 v75 v76 v77 v78 v79 v80 v81 v82 v83 v84 v85 v86 v87 v88 v89 v90 v91 v92 v93 v94 v95 v96 v97 v98 v99 v100 v101 v102 v103 v104 v105 v106 v107 v108 v109 v110 v111 v112 v113 v114 v115 v116 v117 v118 v119 v120 v121 v122 v123 v124 v125 v126 v127 v128 v129 v130 v131 v132 v133 v134 v135 v136 v137 v138 v139 v140 v141 v142 v143 v144 v145 v146 v147 v148 v149 v150 v151 v152 v153 v154 v155 v156 v157 v158 v159 v160 v161 v162 v163 v164 v165 v166 v167 v168 v169 v170 v171 v172 v173 v174 v175 v176 v177 v178 v179 v180 v181 v182 v183 v184 v185 v186 v187 v188 v189 v190 v191 v192 v193 v194 v195 v196 v197 v198 v199 v200 v201 v202 v203 v204 v205 v206 v207 v208 v209 v210 v211 v212 v213 v214 v215 v216 v217 v218 v219 v220 v221 v222 v223 v224 v225 v226 v227 v228 v229 v230 v231 v232 v233 W hrel
          go_step
          go_meet
          case rel => exact hrel
        · refine os_two w w4 gq wr.heap.size k q t v (css0 k) (kd % 6) xa xb xs _ _ hM4 hS (by omega) hxa hxb hxs hxs1 hxa1 hxa2 hxb1 hxb2 ?_ h
          intro v2 v4 v5 v6 v9 v10 v11 v12 v13 v14 v15 v27 v28 v29 v30 v31 v32 v33 v34 v35 v36 v37 v38 v39 v40 v41 v42 v43 v44 v45 v46 v47 v48 v49 v50 v51 v52 v53 v54 v55 v56 v57 v58 v59 v60 v61 v62 v63 v64 v65 v66 v67 v68 v69 v70 v71 v72 v73 v74 v75 v76 v77 v78 v79 v80 v81 v82 v83 v84 v85 v86 v87 v88 v89 v90 v91 v92 v93 v94 v95 v96 v97 v98 v99 v100 v101 v102 v103 v104 v105 v106 v107 v108 v109 v110 v111 v112 v113 v114 v115 v116 v117 v118 v119 v120 v121 v122 v123 v124 v125 v126 v127 v128 v129 v130 v131 v132 v133 v134 v135 v136 v137 v138 v139 v140 v141 v142 v143 v144 v145 v146 v147 v148 v149 v150 v151 v152 v153 v154 v155 v156 v157 v158 v159 v160 v161 v162 v163 v164 v165 v166 v167 v168 v169 v170 v171 v172 v173 v174 v175 v176 v177 v178 v179 v180 v181 v182 v183 v184 v185 v186 v187 v188 v189 v190 v191 v192 v193 v194 v195 v196 v197 v198 v199 v200 v201 v202 v203 v204 v205 v206 v207 v208 v209 v210 v211 v212 v213 v214 v215 v216 v217 v218 v219 v220 v221 v222 v223 v224 v225 v226 v227 v228 v229 v230 v231 v232 v233 W hrel
          go_step
          go_meet
          case rel => exact hrel
        · refine os_three w w4 gq wr.heap.size k q t v (css0 k) (kd % 6) xa xb xs _ _ hM4 hS (by omega) hxa hxb hxs hxs1 hxa1 hxa2 hxb1 hxb2 ?_ h
          intro v2 v4 v5 v6 v9 v10 v11 v12 v13 v14 v15 v27 v28 v29 v30 v31 v32 v33 v34 v35 v36 v37 v38 v39 v40 v41 v42 v43 v44 v45 v46 v47 v48 v49 v50 v51 v52 v53 v54 v55 v56 v57 v58 v59 v60 v61 v62 v63 v64 v65 v66 v67 v68 v69 v70 v71 v72 v73 v74 v75 v76 v77 v78 v79 v80 v81 v82 v83 v84 v85 v86 v87 v88 v89 v90 v91 v92 v93 v94 v95 v96 v97 v98 v99 v100 v101 v102 v103 v104 v105 v106 v107 v108 v109 v110 v111 v112 v113 v114 v115 v116 v117 v118 v119 v120 v121 v122 v123 v124 v125 v126 v127 v128 v129 v130 v131 v132 v133 v134 v135 v136 v137 v138 v139 v140 v141 v142 v143 v144 v145 v146 v147 v148 v149 v150 v151 v152 v153 v154 v155 v156 v157 v158 v159 v160 v161 v162 v163 v164 v165 v166 v167 v168 v169 v170 v171 v172 v173 v174 v175 v176 v177 v178 v179 v180 v181 v182 v183 v184 v185 v186 v187 v188 v189 v190 v191 v192 v193 v194 v195 v196 v197 v198 v199 v200 v201 v202 v203 v204 v205 v206 v207 v208 v209 v210 v211 v212 v213 v214 v215 v216 v217 v218 v219 v220 v221 v222 v223 v224 v225 v226 v227 v228 v229 v230 v231 v232 v233 W hrel
          go_step
          go_meet
          case rel => exact hrel
        · cases hi : oIs q q.cur xa xb
          · refine os_not w w4 gq wr.heap.size k q t v (css0 k) (kd % 6) xa xb _ _ hM4 hS (by omega) hxa hxb hxa1 hxa2 hxb1 hxb2 hd1 hi ?_
            intro v2 v9 v10 v11 v12 v13 v14 v15 v27 v28 v29 v30 v31 v32 v33 v34 v35 v36 v37 v38 v39 v40 v41 v42 v43 v44 v45 v46 v47 v48 v49 v50 v51 v52 v53 v54 v55 v56 v57 v58 v59 v60 v61 v62 v63 v64 v65 v66 v67 v68 v69 v70 v71 v72 v73 v74 v75 v76 v77 v78 v79 v80 v81 v82 v83 v84 v85 v86 v87 v88 v89 v90 v91 v92 v93 v94 v95 v96 v97 v98 v99 v100 v101 v102 v103 v104 v105 v106 v107 v108 v109 v110 v111 v112 v113 v114 v115 v116 v117 v118 v119 v120 v121 v122 v123 v124 v125 v126 v127 v128 v129 v130 v131 v132 v133 v134 v135 v136 v137 v138 v139 v140 v141 v142 v143 v144 v145 v146 v147 v148 v149 v150 v151 v152 v153 v154 v155 v156 v157 v158 v159 v160 v161 v162 v163 v164 v165 v166 v167 v168 v169 v170 v171 v172 v173 v174 v175 v176 v177 v178 v179 v180 v181 v182 v183 v184 v185 v186 v187 v188 v189 v190 v191 v192 v193 v194 v195 v196 v197 v198 v199 v200 v201 v202 v203 v204 v205 v206 v207 v208 v209 v210 v211 v212 v213 v214 v215 v216 v217 v218 v219 v220 v221 v222 v223 v224 v225 v226 v227 v228 v229 v230 v231 v232 v233 W hM6
            go_wp2_with fail
            go_roundg (n0 - (k + 1))
            case measure => have := HGK.out; omega
            case rel => exact ⟨k + 1, q, t, v, rfl, by omega, by go_num, rfl, rfl, rfl, hM6.take_ 2, ⟨hS.ok, hS.held, by omega⟩⟩
          · refine os_yes w w4 gq wr.heap.size k q t v (css0 k) (kd % 6) xa xb _ _ hM4 hS (by omega) hxa hxb hxa1 hxa2 hxb1 hxb2 hd1 hi ?_
            intro v2 v4 v5 v6 v9 v10 v11 v12 v13 v14 v15 v27 v28 v29 v30 v31 v32 v33 v34 v35 v36 v37 v38 v39 v40 v41 v42 v43 v44 v45 v46 v47 v48 v49 v50 v51 v52 v53 v54 v55 v56 v57 v58 v59 v60 v61 v62 v63 v64 v65 v66 v67 v68 v69 v70 v71 v72 v73 v74 v75 v76 v77 v78 v79 v80 v81 v82 v83 v84 v85 v86 v87 v88 v89 v90 v91 v92 v93 v94 v95 v96 v97 v98 v99 v100 v101 v102 v103 v104 v105 v106 v107 v108 v109 v110 v111 v112 v113 v114 v115 v116 v117 v118 v119 v120 v121 v122 v123 v124 v125 v126 v127 v128 v129 v130 v131 v132 v133 v134 v135 v136 v137 v138 v139 v140 v141 v142 v143 v144 v145 v146 v147 v148 v149 v150 v151 v152 v153 v154 v155 v156 v157 v158 v159 v160 v161 v162 v163 v164 v165 v166 v167 v168 v169 v170 v171 v172 v173 v174 v175 v176 v177 v178 v179 v180 v181 v182 v183 v184 v185 v186 v187 v188 v189 v190 v191 v192 v193 v194 v195 v196 v197 v198 v199 v200 v201 v202 v203 v204 v205 v206 v207 v208 v209 v210 v211 v212 v213 v214 v215 v216 v217 v218 v219 v220 v221 v222 v223 v224 v225 v226 v227 v228 v229 v230 v231 v232 v233 W hrel
            go_step
            go_meet
            case rel => exact hrel
      case rest =>
        obtain ⟨q', t', v', rfl, rfl, rfl, hM, hS'⟩ := hcut
        obtain ⟨k1, k2, k3, k4, k5, k6⟩ := hS'.check
        have kb := hS'.base
        have kz := hS'.sz
        have kl := hS'.ok.len
        have ka := hS'.ok.ba
        have ku := hS'.ok.uc
        have kf := hS'.fin
        have kq := qEnd_bd (q := q')
        have HSE := Lib.hid (fun W (h : OAt W gq q' v') => calls_b (Sent_any gq q' v' W h))
        have HUN := Lib.hid (fun W (h : OAt W gq q' v') => calls_b (Una_any gq q' v' W h))
        have HCU := Lib.hid (fun W (h : OAt W gq q' v') => calls_b (Cur_any gq q' v' W h))
        have HEN := Lib.hid (fun W (h : OAt W gq q' v') (hV : OwnB W 0 v' q'.l) => End_any gq q' v' W h hV kl ka (by omega))
        have HRO := Lib.hid (fun W (h : OAt W gq q' v') (hV : OwnB W 0 v' q'.l) => calls_b (Room_any gq q' v' W h hV kl))
        have HS' := Lib.hid hS'
        have k7 : qEnd q' ≤ 4611686018427387904 := by omega
        clear hS' kb kl ka kf kq hS
        generalize qEnd q' = qe at *
        generalize oRoom q' = ro at *
        go_wp2_with (first
          | (go_at_call 24; go_must (refine (HSE.out _ (hM.at_ 0 rfl)).mono ?_; rintro e W ⟨rfl, hb⟩; replace hM := hM.kept hb; clear hb))
          | (go_at_call 20; go_must (refine (HUN.out _ (hM.at_ 0 rfl)).mono ?_; rintro e W ⟨rfl, hb⟩; replace hM := hM.kept hb; clear hb))
          | (go_at_call 23; go_must (refine (HCU.out _ (hM.at_ 0 rfl)).mono ?_; rintro e W ⟨rfl, hb⟩; replace hM := hM.kept hb; clear hb))
          | (go_at_call 19; go_must (refine (HEN.out _ (hM.at_ 0 rfl) (hM.own 1 rfl)).mono ?_; rintro e W ⟨rfl, hb⟩; replace hM := hM.kept hb; clear hb))
          | (go_at_call 14; go_must (refine (HRO.out _ (hM.at_ 0 rfl) (hM.own 1 rfl)).mono ?_; rintro e W ⟨rfl, hb⟩; replace hM := hM.kept hb; clear hb))
          | (refine at_box_ ?_; refine wpList_box_mem rfl _ _ rfl _ rfl hM ?_; clear hM; intro gb W hM; first | (simp only [List.nil_append] at hM) | (simp only [List.cons_append, List.nil_append] at hM)))
        go_roundg (n0 - (k + 1))
        case measure => have := HGK.out; omega
        case rel => exact ⟨k + 1, q', t', v', rfl, by omega, by go_num, rfl, rfl, rfl, hM.take_ 2, HS'.out⟩
    · have h1 := hS.check.2.2.2.2.2
      have h2 := hS.ok
      have h3 := hS.base
      have HEN := Lib.hid (End_any gq q v wr (hM.at_ 0 rfl) (hM.own 1 rfl) h2.len h2.ba (by omega))
      clear h2 h3 hS
      generalize qEnd q = qe at *
      go_wp2_with (go_at_call 19; refine HEN.out.mono ?_; rintro e W ⟨rfl, hb⟩)
      go_ret
      exact ⟨rfl, hM.b.trans (hb.mono hM.b.size)⟩
end Go.Proofs.Ytmcdmgnpbhkdhaa
