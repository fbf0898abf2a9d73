/- PollTold, the switch of a round: Drop, Note. Written by my genpta.py. -/
import Derived.Test.YtgdfjkdcdfmifaaPtA
namespace Go.Proofs.Ytgdfjkdcdfmifaa
open Go.RowKit Go.Lib
set_option linter.unusedVariables false
set_option linter.unusedSimpArgs false
set_option linter.unusedSectionVars false

section
variable {u0 u1 u2 u5 u8 u9 u10 u11 u12 u13 u14 u15 u16 u17 u18 u19 u20 u21 u22 u23 u24 u25 u26 u27 u28 u29 u30 u31 u32 u33 u34 u35 u37 u38 u39 u40 u41 u42 u43 u44 u45 u46 u47 u48 u49 u50 u51 u52 u53 u54 u55 u56 u57 u58 u59 u60 u61 u62 u63 u64 u65 u66 u67 u68 u69 u70 u71 u72 u73 u74 u75 u76 u77 u78 u79 u80 u81 u82 u83 u84 u85 u86 u87 u88 u89 u90 u91 u92 u93 u94 u95 u96 u97 u98 u99 u100 u101 u102 u103 u104 u105 u106 u107 u108 u109 u110 u111 u112 u113 u114 u115 u116 u117 u118 u119 u120 u121 u122 u123 u124 u125 u126 u127 u128 u129 u130 u131 u132 u133 u134 u135 u136 u137 u138 u139 u140 u141 u142 u143 u144 u145 u146 u147 u148 u149 u150 u151 u152 u153 u154 u155 u156 u157 u158 u159 u160 u161 u162 u163 u164 u165 u166 u167 u168 u169 u170 u171 u172 u173 u174 u175 u176 u177 u178 u179 u180 u181 u182 u183 u184 u185 u186 u187 u188 u189 u190 u191 u192 u193 u194 u195 u196 u197 u198 u199 u200 u201 u202 u203 u204 u205 u206 u207 u208 u209 u210 u211 u212 u213 u214 u215 u216 u217 u218 u219 : Value} (w w4 : World) (g gm gx : Nat) (v sv : Value) (ws zs : List KW) (m : List (Int × Nat)) (bs : Int → Nat) (cs : List Value) (kk xa xb : Int) (xo : Bool) (K : Act → World → Prop) (Q0 : Exit → Act → World → Prop)
  (hM : Mem w w4 (ptM g gm gx cs v ws m bs zs)) (HI : Hid (PInv ws)) (HA : Hid (Acc m bs ws zs)) (hxa : cs[1]? = some (.int .i64 xa)) (hxb : cs[2]? = some (.int .i64 xb)) (hxo : cs[3]? = some (.bool xo)) (HKO : Hid (KeyOk Try.prog 3 fInt xa))
  (HQ0 : Hid (∀ c d v a w, Q0 (.panic c) (Act.put a d v) w → Q0 (.panic c) a w))
  (hK : ∀ (v2 v7 v8 v9 v10 v12 v13 v14 v15 v37 v38 v39 v40 v41 v42 v43 v44 v45 v46 v47 v48 v49 v50 v51 v52 v53 v54 v55 v56 v57 v58 v59 v60 v61 v62 v63 v64 v65 v66 v67 v68 v69 v70 v71 v72 v73 v74 v75 v76 v77 v78 v79 v80 v81 v82 v83 v84 v85 v86 v87 v88 v89 v90 v91 v92 v93 v94 v95 v96 v97 v98 v99 v100 v101 v102 v103 v104 v105 v106 v107 v108 v109 v110 v111 v112 v113 v114 v115 v116 v117 v118 v119 v120 v121 v122 v123 v124 v125 v126 v127 v128 v129 v130 v131 v132 v133 v134 v135 v136 v137 v138 v139 v140 v141 v142 v143 v144 v145 v146 v147 v148 v149 v150 v151 v152 v153 v154 v155 v156 v157 v158 v159 v160 v161 v162 v163 v164 v165 v166 v167 v168 v169 v170 v171 v172 v173 v174 v175 v176 v177 v178 v179 v180 v181 v182 v183 v184 v185 v186 v187 v188 v189 v190 v191 v192 v193 v194 v195 v196 v197 v198 v199 v200 v201 v202 v203 v204 v205 v206 v207 v208 v209 v210 v211 v212 v213 v214 v215 v216 v217 v218 : Value) (W : World), ptRel w g gm gx cs W → K ⟨#[u0, u1, v2, .pointer (some ⟨g, 0, none⟩), .map (some gm), u5, .pointer (some ⟨gx, 0, none⟩), v7, v8, v9, v10, u11, v12, v13, v14, v15, u16, u17, u18, u19, u20, u21, u22, u23, u24, u25, u26, u27, u28, u29, u30, u31, u32, u33, u34, u35, .int .i64 kk, v37, v38, v39, v40, v41, v42, v43, v44, v45, v46, v47, v48, v49, v50, v51, v52, v53, v54, v55, v56, v57, v58, v59, v60, v61, v62, v63, v64, v65, v66, v67, v68, v69, v70, v71, v72, v73, v74, v75, v76, v77, v78, v79, v80, v81, v82, v83, v84, v85, v86, v87, v88, v89, v90, v91, v92, v93, v94, v95, v96, v97, v98, v99, v100, v101, v102, v103, v104, v105, v106, v107, v108, v109, v110, v111, v112, v113, v114, v115, v116, v117, v118, v119, v120, v121, v122, v123, v124, v125, v126, v127, v128, v129, v130, v131, v132, v133, v134, v135, v136, v137, v138, v139, v140, v141, v142, v143, v144, v145, v146, v147, v148, v149, v150, v151, v152, v153, v154, v155, v156, v157, v158, v159, v160, v161, v162, v163, v164, v165, v166, v167, v168, v169, v170, v171, v172, v173, v174, v175, v176, v177, v178, v179, v180, v181, v182, v183, v184, v185, v186, v187, v188, v189, v190, v191, v192, v193, v194, v195, v196, v197, v198, v199, v200, v201, v202, v203, v204, v205, v206, v207, v208, v209, v210, v211, v212, v213, v214, v215, v216, v217, v218, u219], []⟩ W)
include hM HI HA hxa hxb hxo HKO HQ0 hK

set_option maxRecDepth 100000 in
set_option maxHeartbeats 8000000 in
theorem pt_drop_none (h : kk = 1) (hat : atW ws xa < 0) (hno : ∀ x ∈ ws, x.fd ≠ xa) : Code.wp Try.prog ptSwitch (Exit.then K Q0) ⟨#[u0, u1, u2, .pointer (some ⟨g, 0, none⟩), .map (some gm), u5, .pointer (some ⟨gx, 0, none⟩), sv, u8, u9, u10, u11, u12, u13, u14, u15, u16, u17, u18, u19, u20, u21, u22, u23, u24, u25, u26, u27, u28, u29, u30, u31, u32, u33, u34, u35, .int .i64 kk, u37, u38, u39, u40, u41, u42, u43, u44, u45, u46, u47, u48, u49, u50, u51, u52, u53, u54, u55, u56, u57, u58, u59, u60, u61, u62, u63, u64, u65, u66, u67, u68, u69, u70, u71, u72, u73, u74, u75, u76, u77, u78, u79, u80, u81, u82, u83, u84, u85, u86, u87, u88, u89, u90, u91, u92, u93, u94, u95, u96, u97, u98, u99, u100, u101, u102, u103, u104, u105, u106, u107, u108, u109, u110, u111, u112, u113, u114, u115, u116, u117, u118, u119, u120, u121, u122, u123, u124, u125, u126, u127, u128, u129, u130, u131, u132, u133, u134, u135, u136, u137, u138, u139, u140, u141, u142, u143, u144, u145, u146, u147, u148, u149, u150, u151, u152, u153, u154, u155, u156, u157, u158, u159, u160, u161, u162, u163, u164, u165, u166, u167, u168, u169, u170, u171, u172, u173, u174, u175, u176, u177, u178, u179, u180, u181, u182, u183, u184, u185, u186, u187, u188, u189, u190, u191, u192, u193, u194, u195, u196, u197, u198, u199, u200, u201, u202, u203, u204, u205, u206, u207, u208, u209, u210, u211, u212, u213, u214, u215, u216, u217, u218, u219], []⟩ w4 := by
  subst h
  have hl := HI.out.len
  have HS := Lib.hid (fun W h => Drop_no g v ws xa W h (by omega) hat)
  have HI1 := HI.out
  have HA1 := HA.out
  have hd := mDel_none (mGet_none_iff.1 (HA.out.none hno))
  have HF := Lib.hid (fun W (h : Mem w W (atR gx 40 cs :: mapR Try.prog 3 fInt fSP gm (mDel m xa) :: (pollL g v ws ++ zs.map (sR bs)))) => (⟨v, ws, m, bs, zs, (by rw [hd] at h; exact h), HI1, HA1⟩ : ptRel w g gm gx cs W))
  have hM1 : Mem w w4 ([atR gx 40 cs, mapR Try.prog 3 fInt fSP gm m] ++ (pollL g v ws ++ zs.map (sR bs))) := hM
  clear HI1 HA1 hat hno HI HA hd hl hM
  have hM := hM1
  clear hM1
  conv => arg 2; whnf
  go_upto_region 18 with         (first
          | go_skip
          | (go_at_call 44; refine (HS.out _ (pl_hand (to_front [atR gx 40 cs, mapR Try.prog 3 fInt fSP gm m] _ _ hM))).mono ?_; rintro x W ⟨rfl, hb⟩; replace hM := hM.kept hb; clear hb; dsimp only)
          | ((with_reducible refine at_box_ ?_); refine wpList_box_mem rfl _ _ rfl _ rfl hM ?_; clear hM; intro gb W hM; first | (simp only [List.nil_append] at hM) | (simp only [List.cons_append, List.nil_append] at hM))
          | ((with_reducible refine at_load_ ?_); refine at_wanted_ (by rfl) ?_; refine wpList_loadf_mem (by go_simp) _ _ rfl (by kernel_rfl) 0 _ _ _ _ _ hM rfl rfl (by first | rfl | assumption) ?_)
          | ((with_reducible refine at_store_ ?_); refine wpList_store1_mem rfl _ _ _ rfl 0 _ _ _ _ _ hM rfl rfl (by first | ((conv => lhs; whnf); done) | ((conv => lhs; whnf); rfl)) (by rfl) (by rfl) (by kernel_rfl) rfl ?_; clear hM; intro W hM; simp only [List.set_cons_succ, List.set_cons_zero] at hM))
  generalize hPL : pollL g v ws ++ zs.map (sR bs) = PL at hM
  have HPL := Lib.hid hPL
  clear hPL
  replace hM : Mem w W (atR gx 40 cs :: mapR Try.prog 3 fInt fSP gm m :: PL) := hM
  go_wp2_with         (first
          | go_skip
          | ((with_reducible refine at_delete_ ?_); refine wpList_delete_m rfl _ _ rfl mapTy_sock 1 hM rfl rfl xa rfl HKO.out ?_; clear hM; intro W hM)
          | ((with_reducible refine at_box_ ?_); refine wpList_box_mem rfl _ _ rfl _ rfl hM ?_; clear hM; intro gb W hM; first | (simp only [List.nil_append] at hM) | (simp only [List.cons_append, List.nil_append] at hM))
          | ((with_reducible refine at_load_ ?_); refine at_wanted_ (by rfl) ?_; refine wpList_loadf_mem (by go_simp) _ _ rfl (by kernel_rfl) 0 _ _ _ _ _ hM rfl rfl (by first | rfl | assumption) ?_)
          | ((with_reducible refine at_store_ ?_); refine wpList_store1_mem rfl _ _ _ rfl 0 _ _ _ _ _ hM rfl rfl (by first | ((conv => lhs; whnf); done) | ((conv => lhs; whnf); rfl)) (by rfl) (by rfl) (by kernel_rfl) rfl ?_; clear hM; intro W hM; simp only [List.set_cons_succ, List.set_cons_zero] at hM))
  replace hM : Mem w W (atR gx 40 cs :: mapR Try.prog 3 fInt fSP gm (mDel m xa) :: PL) := hM
  rw [← HPL.out] at hM
  exact HF.out _ hM

set_option maxRecDepth 100000 in
set_option maxHeartbeats 8000000 in
theorem pt_drop_old (h : kk = 1) (k0 : Nat) (x : KW) (hat : atW ws xa = k0) (hk : ws[k0]? = some x) (hx : x.fd = xa) : Code.wp Try.prog ptSwitch (Exit.then K Q0) ⟨#[u0, u1, u2, .pointer (some ⟨g, 0, none⟩), .map (some gm), u5, .pointer (some ⟨gx, 0, none⟩), sv, u8, u9, u10, u11, u12, u13, u14, u15, u16, u17, u18, u19, u20, u21, u22, u23, u24, u25, u26, u27, u28, u29, u30, u31, u32, u33, u34, u35, .int .i64 kk, u37, u38, u39, u40, u41, u42, u43, u44, u45, u46, u47, u48, u49, u50, u51, u52, u53, u54, u55, u56, u57, u58, u59, u60, u61, u62, u63, u64, u65, u66, u67, u68, u69, u70, u71, u72, u73, u74, u75, u76, u77, u78, u79, u80, u81, u82, u83, u84, u85, u86, u87, u88, u89, u90, u91, u92, u93, u94, u95, u96, u97, u98, u99, u100, u101, u102, u103, u104, u105, u106, u107, u108, u109, u110, u111, u112, u113, u114, u115, u116, u117, u118, u119, u120, u121, u122, u123, u124, u125, u126, u127, u128, u129, u130, u131, u132, u133, u134, u135, u136, u137, u138, u139, u140, u141, u142, u143, u144, u145, u146, u147, u148, u149, u150, u151, u152, u153, u154, u155, u156, u157, u158, u159, u160, u161, u162, u163, u164, u165, u166, u167, u168, u169, u170, u171, u172, u173, u174, u175, u176, u177, u178, u179, u180, u181, u182, u183, u184, u185, u186, u187, u188, u189, u190, u191, u192, u193, u194, u195, u196, u197, u198, u199, u200, u201, u202, u203, u204, u205, u206, u207, u208, u209, u210, u211, u212, u213, u214, u215, u216, u217, u218, u219], []⟩ w4 := by
  subst h
  obtain ⟨zs', hp⟩ := front_of (HA.out.pm.mem_iff.2 (List.mem_of_getElem? hk))
  have HAT := Lib.hid (HA.out.drop HI.out hk hp)
  have HIT := Lib.hid (HI.out.erase k0)
  have hl := HI.out.len
  have HS := Lib.hid (fun W h => Drop_yes g v ws xa k0 x W h (by omega) hat hk)
  have hM1 := sock_out (F := atR gx 40 cs :: mapR Try.prog 3 fInt fSP gm m :: pollL g v ws) hM hp
  replace hM1 : Mem w w4 ([sR bs x, atR gx 40 cs, mapR Try.prog 3 fInt fSP gm m] ++ (pollL g v ws ++ zs'.map (sR bs))) := hM1
  have HF := Lib.hid (fun W v' (h : Mem w W (atR gx 40 cs :: mapR Try.prog 3 fInt fSP gm (mDel m x.fd) :: (pollL g v' (ws.eraseIdx k0) ++ zs'.map (sR bs)))) => (⟨v', _, _, bs, _, h, HIT.out, HAT.out⟩ : ptRel w g gm gx cs W))
  clear HI HA HAT HIT hp hk hat hl hM
  have hM := hM1
  clear hM1
  obtain ⟨g0, fx, mx, rx, ex, frx⟩ := x
  simp only at hx
  subst hx
  conv => arg 2; whnf
  go_upto_region 18 with         (first
          | go_skip
          | (go_at_call 44; refine (HS.out _ (pl_hand (to_front [sR bs ⟨g0, fx, mx, rx, ex, frx⟩, atR gx 40 cs, mapR Try.prog 3 fInt fSP gm m] _ _ hM))).mono ?_; rintro x W ⟨v2, rfl, hM6⟩; replace hM := to_front _ [sR bs ⟨g0, fx, mx, rx, ex, frx⟩, atR gx 40 cs, mapR Try.prog 3 fInt fSP gm m] _ (pl_put (to_front [sR bs ⟨g0, fx, mx, rx, ex, frx⟩, atR gx 40 cs, mapR Try.prog 3 fInt fSP gm m] _ _ hM) hM6); clear hM6; dsimp only)
          | ((with_reducible refine at_box_ ?_); refine wpList_box_mem rfl _ _ rfl _ rfl hM ?_; clear hM; intro gb W hM; first | (simp only [List.nil_append] at hM) | (simp only [List.cons_append, List.nil_append] at hM))
          | ((with_reducible refine at_load_ ?_); refine at_wanted_ (by rfl) ?_; first | (refine wpList_loadf_mem (by go_simp) _ _ rfl (by kernel_rfl) 0 _ _ _ _ _ hM rfl rfl (by first | rfl | assumption) ?_) | (refine wpList_loadf_mem (by go_simp) _ _ rfl (by kernel_rfl) 1 _ _ _ _ _ hM rfl rfl (by first | rfl | assumption) ?_))
          | ((with_reducible refine at_store_ ?_); first | (refine wpList_store1_mem rfl _ _ _ rfl 0 _ _ _ _ _ hM rfl rfl (by first | ((conv => lhs; whnf); done) | ((conv => lhs; whnf); rfl)) (by rfl) (by rfl) (by kernel_rfl) rfl ?_; clear hM; intro W hM; simp only [List.set_cons_succ, List.set_cons_zero] at hM) | (refine wpList_store1_mem rfl _ _ _ rfl 1 _ _ _ _ _ hM rfl rfl (by first | ((conv => lhs; whnf); done) | ((conv => lhs; whnf); rfl)) (by rfl) (by rfl) (by kernel_rfl) rfl ?_; clear hM; intro W hM; simp only [List.set_cons_succ, List.set_cons_zero] at hM)))
  generalize hPL : pollL g v2 (ws.eraseIdx k0) ++ zs'.map (sR bs) = PL at hM
  have HPL := Lib.hid hPL
  clear hPL
  replace hM := (show MemX noE w W ([sR bs ⟨g0, fx, mx, rx, ex, frx⟩] ++ (atR gx 40 cs :: mapR Try.prog 3 fInt fSP gm m :: PL)) from hM).drop_
  go_wp2_with         (first
          | go_skip
          | ((with_reducible refine at_delete_ ?_); refine wpList_delete_m rfl _ _ rfl mapTy_sock 1 hM rfl rfl fx rfl HKO.out ?_; clear hM; intro W hM)
          | ((with_reducible refine at_box_ ?_); refine wpList_box_mem rfl _ _ rfl _ rfl hM ?_; clear hM; intro gb W hM; first | (simp only [List.nil_append] at hM) | (simp only [List.cons_append, List.nil_append] at hM))
          | ((with_reducible refine at_load_ ?_); refine at_wanted_ (by rfl) ?_; refine wpList_loadf_mem (by go_simp) _ _ rfl (by kernel_rfl) 0 _ _ _ _ _ hM rfl rfl (by first | rfl | assumption) ?_)
          | ((with_reducible refine at_store_ ?_); refine wpList_store1_mem rfl _ _ _ rfl 0 _ _ _ _ _ hM rfl rfl (by first | ((conv => lhs; whnf); done) | ((conv => lhs; whnf); rfl)) (by rfl) (by rfl) (by kernel_rfl) rfl ?_; clear hM; intro W hM; simp only [List.set_cons_succ, List.set_cons_zero] at hM))
  replace hM : Mem w W (atR gx 40 cs :: mapR Try.prog 3 fInt fSP gm (mDel m fx) :: PL) := hM
  rw [← HPL.out] at hM
  exact HF.out _ _ hM

set_option maxRecDepth 100000 in
set_option maxHeartbeats 8000000 in
theorem pt_note_none (h : kk = 2 ∨ kk = 3) (hat : atW ws xa < 0) (hno : ∀ x ∈ ws, x.fd ≠ xa) (hsv : sv = .pointer none) : Code.wp Try.prog ptSwitch (Exit.then K Q0) ⟨#[u0, u1, u2, .pointer (some ⟨g, 0, none⟩), .map (some gm), u5, .pointer (some ⟨gx, 0, none⟩), sv, u8, u9, u10, u11, u12, u13, u14, u15, u16, u17, u18, u19, u20, u21, u22, u23, u24, u25, u26, u27, u28, u29, u30, u31, u32, u33, u34, u35, .int .i64 kk, u37, u38, u39, u40, u41, u42, u43, u44, u45, u46, u47, u48, u49, u50, u51, u52, u53, u54, u55, u56, u57, u58, u59, u60, u61, u62, u63, u64, u65, u66, u67, u68, u69, u70, u71, u72, u73, u74, u75, u76, u77, u78, u79, u80, u81, u82, u83, u84, u85, u86, u87, u88, u89, u90, u91, u92, u93, u94, u95, u96, u97, u98, u99, u100, u101, u102, u103, u104, u105, u106, u107, u108, u109, u110, u111, u112, u113, u114, u115, u116, u117, u118, u119, u120, u121, u122, u123, u124, u125, u126, u127, u128, u129, u130, u131, u132, u133, u134, u135, u136, u137, u138, u139, u140, u141, u142, u143, u144, u145, u146, u147, u148, u149, u150, u151, u152, u153, u154, u155, u156, u157, u158, u159, u160, u161, u162, u163, u164, u165, u166, u167, u168, u169, u170, u171, u172, u173, u174, u175, u176, u177, u178, u179, u180, u181, u182, u183, u184, u185, u186, u187, u188, u189, u190, u191, u192, u193, u194, u195, u196, u197, u198, u199, u200, u201, u202, u203, u204, u205, u206, u207, u208, u209, u210, u211, u212, u213, u214, u215, u216, u217, u218, u219], []⟩ w4 := by
  subst hsv
  have hl := HI.out.len
  have HS := Lib.hid (fun W h => Note_no g v ws xa xb W h (by omega) hat)
  have HI1 := HI.out
  have HA1 := HA.out
  have HF := Lib.hid (fun W (h : Mem w W ([atR gx 40 cs, mapR Try.prog 3 fInt fSP gm m] ++ (pollL g v ws ++ zs.map (sR bs)))) => (⟨v, ws, m, bs, zs, h, HI1, HA1⟩ : ptRel w g gm gx cs W))
  have hM1 : Mem w w4 ([atR gx 40 cs, mapR Try.prog 3 fInt fSP gm m] ++ (pollL g v ws ++ zs.map (sR bs))) := hM
  clear HI1 HA1 hat hno HI HA hl hM
  have hM := hM1
  clear hM1
  rcases h with rfl | rfl
  · conv => arg 2; whnf
    go_wp2_with (first
      | go_skip
      | (go_at_call 42; refine (HS.out _ (pl_hand (to_front [atR gx 40 cs, mapR Try.prog 3 fInt fSP gm m] _ _ hM))).mono ?_; rintro x W ⟨rfl, hb⟩; replace hM := hM.kept hb; clear hb; dsimp only)
      | ((with_reducible refine at_box_ ?_); refine wpList_box_mem rfl _ _ rfl _ rfl hM ?_; clear hM; intro gb W hM; first | (simp only [List.nil_append] at hM) | (simp only [List.cons_append, List.nil_append] at hM))
      | ((with_reducible refine at_load_ ?_); refine at_wanted_ (by rfl) ?_; refine wpList_loadf_mem (by go_simp) _ _ rfl (by kernel_rfl) 0 _ _ _ _ _ hM rfl rfl (by first | rfl | assumption) ?_)
      | ((with_reducible refine at_store_ ?_); refine wpList_store1_mem rfl _ _ _ rfl 0 _ _ _ _ _ hM rfl rfl (by first | ((conv => lhs; whnf); done) | ((conv => lhs; whnf); rfl)) (by rfl) (by rfl) (by kernel_rfl) rfl ?_; clear hM; intro W hM; simp only [List.set_cons_succ, List.set_cons_zero] at hM))
    exact HF.out _ hM
  · conv => arg 2; whnf
    go_wp2_with (first
      | go_skip
      | (go_at_call 42; refine (HS.out _ (pl_hand (to_front [atR gx 40 cs, mapR Try.prog 3 fInt fSP gm m] _ _ hM))).mono ?_; rintro x W ⟨rfl, hb⟩; replace hM := hM.kept hb; clear hb; dsimp only)
      | ((with_reducible refine at_box_ ?_); refine wpList_box_mem rfl _ _ rfl _ rfl hM ?_; clear hM; intro gb W hM; first | (simp only [List.nil_append] at hM) | (simp only [List.cons_append, List.nil_append] at hM))
      | ((with_reducible refine at_load_ ?_); refine at_wanted_ (by rfl) ?_; refine wpList_loadf_mem (by go_simp) _ _ rfl (by kernel_rfl) 0 _ _ _ _ _ hM rfl rfl (by first | rfl | assumption) ?_)
      | ((with_reducible refine at_store_ ?_); refine wpList_store1_mem rfl _ _ _ rfl 0 _ _ _ _ _ hM rfl rfl (by first | ((conv => lhs; whnf); done) | ((conv => lhs; whnf); rfl)) (by rfl) (by rfl) (by kernel_rfl) rfl ?_; clear hM; intro W hM; simp only [List.set_cons_succ, List.set_cons_zero] at hM))
    exact HF.out _ hM

set_option maxRecDepth 100000 in
set_option maxHeartbeats 8000000 in
theorem pt_note_old (h : kk = 2 ∨ kk = 3) (k0 : Nat) (x : KW) (hat : atW ws xa = k0) (hk : ws[k0]? = some x) (hx : x.fd = xa) (hsv : sv = .pointer (some ⟨bs xa, 0, none⟩)) : Code.wp Try.prog ptSwitch (Exit.then K Q0) ⟨#[u0, u1, u2, .pointer (some ⟨g, 0, none⟩), .map (some gm), u5, .pointer (some ⟨gx, 0, none⟩), sv, u8, u9, u10, u11, u12, u13, u14, u15, u16, u17, u18, u19, u20, u21, u22, u23, u24, u25, u26, u27, u28, u29, u30, u31, u32, u33, u34, u35, .int .i64 kk, u37, u38, u39, u40, u41, u42, u43, u44, u45, u46, u47, u48, u49, u50, u51, u52, u53, u54, u55, u56, u57, u58, u59, u60, u61, u62, u63, u64, u65, u66, u67, u68, u69, u70, u71, u72, u73, u74, u75, u76, u77, u78, u79, u80, u81, u82, u83, u84, u85, u86, u87, u88, u89, u90, u91, u92, u93, u94, u95, u96, u97, u98, u99, u100, u101, u102, u103, u104, u105, u106, u107, u108, u109, u110, u111, u112, u113, u114, u115, u116, u117, u118, u119, u120, u121, u122, u123, u124, u125, u126, u127, u128, u129, u130, u131, u132, u133, u134, u135, u136, u137, u138, u139, u140, u141, u142, u143, u144, u145, u146, u147, u148, u149, u150, u151, u152, u153, u154, u155, u156, u157, u158, u159, u160, u161, u162, u163, u164, u165, u166, u167, u168, u169, u170, u171, u172, u173, u174, u175, u176, u177, u178, u179, u180, u181, u182, u183, u184, u185, u186, u187, u188, u189, u190, u191, u192, u193, u194, u195, u196, u197, u198, u199, u200, u201, u202, u203, u204, u205, u206, u207, u208, u209, u210, u211, u212, u213, u214, u215, u216, u217, u218, u219], []⟩ w4 := by
  obtain ⟨zs', hp⟩ := front_of (HA.out.pm.mem_iff.2 (List.mem_of_getElem? hk))
  have HAT := Lib.hid (HA.out.turn (t := fun y => noteW y xb) HI.out hk (fun _ => rfl) hp)
  have HIT := Lib.hid (HI.out.set (y := noteW x xb) hk rfl)
  have hl := HI.out.len
  have HS := Lib.hid (fun W h => Note_yes g v ws xa xb k0 x W h (by omega) hat hk)
  have hM1 := sock_out (F := atR gx 40 cs :: mapR Try.prog 3 fInt fSP gm m :: pollL g v ws) hM hp
  replace hM1 : Mem w w4 ([sR bs x, atR gx 40 cs, mapR Try.prog 3 fInt fSP gm m] ++ (pollL g v ws ++ zs'.map (sR bs))) := hM1
  have HF := Lib.hid (fun W (h : Mem w W ((sR bs (noteW x xb) :: atR gx 40 cs :: mapR Try.prog 3 fInt fSP gm m :: pollL g v (ws.set k0 (noteW x xb))) ++ zs'.map (sR bs))) => (⟨v, _, m, bs, _, sock_in (F := atR gx 40 cs :: mapR Try.prog 3 fInt fSP gm m :: pollL g v (ws.set k0 (noteW x xb))) h, HIT.out, HAT.out⟩ : ptRel w g gm gx cs W))
  clear HI HA HAT HIT hp hk hat hl hM
  have hM := hM1
  clear hM1
  obtain ⟨g0, fx, mx, rx, ex, frx⟩ := x
  simp only at hx
  subst hx hsv
  cases frx
  · have HC := Lib.hid h
    rcases h with rfl | rfl
    · conv => arg 2; whnf
      go_upto_region 23 with         (first
          | go_skip
          | (go_at_call 42; refine (HS.out _ (pl_hand (to_front [sR bs ⟨g0, fx, mx, rx, ex, false⟩, atR gx 40 cs, mapR Try.prog 3 fInt fSP gm m] _ _ hM))).mono ?_; rintro x W ⟨rfl, hM6⟩; replace hM := to_front _ [sR bs ⟨g0, fx, mx, rx, ex, false⟩, atR gx 40 cs, mapR Try.prog 3 fInt fSP gm m] _ (pl_put (to_front [sR bs ⟨g0, fx, mx, rx, ex, false⟩, atR gx 40 cs, mapR Try.prog 3 fInt fSP gm m] _ _ hM) hM6); clear hM6; dsimp only)
          | ((with_reducible refine at_box_ ?_); refine wpList_box_mem rfl _ _ rfl _ rfl hM ?_; clear hM; intro gb W hM; first | (simp only [List.nil_append] at hM) | (simp only [List.cons_append, List.nil_append] at hM))
          | ((with_reducible refine at_load_ ?_); refine at_wanted_ (by rfl) ?_; first | (refine wpList_loadf_mem (by go_simp) _ _ rfl (by kernel_rfl) 0 _ _ _ _ _ hM rfl rfl (by first | rfl | assumption) ?_) | (refine wpList_loadf_mem (by go_simp) _ _ rfl (by kernel_rfl) 1 _ _ _ _ _ hM rfl rfl (by first | rfl | assumption) ?_))
          | ((with_reducible refine at_store_ ?_); first | (refine wpList_store1_mem rfl _ _ _ rfl 0 _ _ _ _ _ hM rfl rfl (by first | ((conv => lhs; whnf); done) | ((conv => lhs; whnf); rfl)) (by rfl) (by rfl) (by kernel_rfl) rfl ?_; clear hM; intro W hM; simp only [List.set_cons_succ, List.set_cons_zero] at hM) | (refine wpList_store1_mem rfl _ _ _ rfl 1 _ _ _ _ _ hM rfl rfl (by first | ((conv => lhs; whnf); done) | ((conv => lhs; whnf); rfl)) (by rfl) (by rfl) (by kernel_rfl) rfl ?_; clear hM; intro W hM; simp only [List.set_cons_succ, List.set_cons_zero] at hM)))
      generalize hPL : pollL g v (ws.set k0 (noteW ⟨g0, fx, mx, rx, ex, false⟩ xb)) ++ zs'.map (sR bs) = PL at hM
      have HPL := Lib.hid hPL
      clear hPL
      replace hM : Mem w W (atR (bs fx) 84 [.int .i64 mx, .int .i64 rx, .bool ex, .bool false] :: atR gx 40 cs :: mapR Try.prog 3 fInt fSP gm m :: PL) := hM
      have HW1 := Lib.hid (fun W (h : (atR gx 40 cs).P W) => ((show At W _ _ _ from h).cell 2).trans hxb)
      refine wp_region_M [0,1] [18] hM (by kernel_rfl) ?_
      clear hM
      intro wo hM
      refine wpI_takeP (i := 0) (v := ?_) rfl (by kernel_rfl) (by kernel_rfl) (by kernel_rfl) (by first | exact fun _ _ _ h => h | exact fun _ _ _ h => HQ0.out _ _ _ _ _ h) (Or.inl ⟨by rfl, ?hy⟩) ?_
      case hy => (intro W; go_simp; (try with_reducible rfl))
      simp only [Act.put, List.getElem_toArray, List.getElem_cons_succ, List.getElem_cons_zero, List.setIfInBounds_toArray, List.set_cons_zero, List.set_cons_succ]
      refine wpI_takeP (i := 1) (v := ?_) rfl (by kernel_rfl) (by kernel_rfl) (by kernel_rfl) (by first | exact fun _ _ _ h => h | exact fun _ _ _ h => HQ0.out _ _ _ _ _ h) (Or.inl ⟨by rfl, ?hy⟩) ?_
      case hy => (intro W; go_simp; (try with_reducible rfl))
      simp only [Act.put, List.getElem_toArray, List.getElem_cons_succ, List.getElem_cons_zero, List.setIfInBounds_toArray, List.set_cons_zero, List.set_cons_succ]
      refine wpI_takeP (i := 2) (v := ?_) rfl (by kernel_rfl) (by kernel_rfl) (by kernel_rfl) (by first | exact fun _ _ _ h => h | exact fun _ _ _ h => HQ0.out _ _ _ _ _ h) (Or.inl ⟨by rfl, ?hy⟩) ?_
      case hy => (intro W; go_simp; (try with_reducible rfl))
      simp only [Act.put, List.getElem_toArray, List.getElem_cons_succ, List.getElem_cons_zero, List.setIfInBounds_toArray, List.set_cons_zero, List.set_cons_succ]
      refine wpI_takeP (i := 3) (v := ?_) rfl (by kernel_rfl) (by kernel_rfl) (by kernel_rfl) (by first | exact fun _ _ _ h => h | exact fun _ _ _ h => HQ0.out _ _ _ _ _ h) (Or.inl ⟨by rfl, ?hy⟩) ?_
      case hy => (intro W; go_simp; (try with_reducible rfl))
      simp only [Act.put, List.getElem_toArray, List.getElem_cons_succ, List.getElem_cons_zero, List.setIfInBounds_toArray, List.set_cons_zero, List.set_cons_succ]
      refine wpI_takeT (i := 4) (v := ?_) rfl (by kernel_rfl) (by kernel_rfl) (by kernel_rfl) (by kernel_rfl) (by first | exact fun _ _ _ h => h | exact fun _ _ _ h => HQ0.out _ _ _ _ _ h) ⟨fun r hr => hM.get 0 hr, fun r hr => hM.get 1 hr, trivial⟩ (Or.inl ⟨by rfl, ?hy⟩) ?_
      case hy => (rintro W ⟨i0, i1, -⟩; have c0 := (show At W _ _ _ from i0 _ rfl).cell; have c1 := HW1.out W (i1 _ rfl); go_simp; (try with_reducible rfl))
      simp only [Act.put, List.getElem_toArray, List.getElem_cons_succ, List.getElem_cons_zero, List.setIfInBounds_toArray, List.set_cons_zero, List.set_cons_succ]
      refine wpI_takeP (i := 5) (v := ?_) rfl (by kernel_rfl) (by kernel_rfl) (by kernel_rfl) (by first | exact fun _ _ _ h => h | exact fun _ _ _ h => HQ0.out _ _ _ _ _ h) (Or.inl ⟨by rfl, ?hy⟩) ?_
      case hy => (intro W; go_simp; (try with_reducible rfl))
      simp only [Act.put, List.getElem_toArray, List.getElem_cons_succ, List.getElem_cons_zero, List.setIfInBounds_toArray, List.set_cons_zero, List.set_cons_succ]
      first
      | (refine wpI_takeP (i := 6) (v := ?_) rfl (by kernel_rfl) (by kernel_rfl) (by kernel_rfl) (by first | exact fun _ _ _ h => h | exact fun _ _ _ h => HQ0.out _ _ _ _ _ h) (Or.inl ⟨by rfl, ?hy⟩) ?_; (case hy => (intro W; go_simp; (try with_reducible rfl))))
      | (refine wpI_takeP (i := 6) (v := undef) rfl (by kernel_rfl) (by kernel_rfl) (by kernel_rfl) (by first | exact fun _ _ _ h => h | exact fun _ _ _ h => HQ0.out _ _ _ _ _ h) (Or.inr ⟨by rfl, rfl⟩) ?_)
      simp only [Act.put, List.getElem_toArray, List.getElem_cons_succ, List.getElem_cons_zero, List.setIfInBounds_toArray, List.set_cons_zero, List.set_cons_succ]
      first
      | (refine wpI_takeT (i := 7) (v := ?_) rfl (by kernel_rfl) (by kernel_rfl) (by kernel_rfl) (by kernel_rfl) (by first | exact fun _ _ _ h => h | exact fun _ _ _ h => HQ0.out _ _ _ _ _ h) ⟨fun r hr => hM.get 0 hr, fun r hr => hM.get 1 hr, trivial⟩ (Or.inl ⟨by rfl, ?hy⟩) ?_; (case hy => (rintro W ⟨i0, i1, -⟩; have c0 := (show At W _ _ _ from i0 _ rfl).cell; have c1 := HW1.out W (i1 _ rfl); go_simp; (try with_reducible rfl))))
      | (refine wpI_takeT (i := 7) (v := undef) rfl (by kernel_rfl) (by kernel_rfl) (by kernel_rfl) (by kernel_rfl) (by first | exact fun _ _ _ h => h | exact fun _ _ _ h => HQ0.out _ _ _ _ _ h) ⟨fun r hr => hM.get 0 hr, fun r hr => hM.get 1 hr, trivial⟩ (Or.inr ⟨by rfl, rfl⟩) ?_)
      simp only [Act.put, List.getElem_toArray, List.getElem_cons_succ, List.getElem_cons_zero, List.setIfInBounds_toArray, List.set_cons_zero, List.set_cons_succ]
      refine wpI_takeP (i := 8) rfl (by kernel_rfl) (by kernel_rfl) (by kernel_rfl) (by first | exact fun _ _ _ h => h | exact fun _ _ _ h => HQ0.out _ _ _ _ _ h) ((yields_and (by rfl) _ _ _ _ rfl xb 7 rfl rfl)) ?_
      simp only [Act.put, List.getElem_toArray, List.getElem_cons_succ, List.getElem_cons_zero, List.setIfInBounds_toArray, List.set_cons_zero, List.set_cons_succ]
      (try simp only [Bool.not_true, Bool.not_false])
      first
      | (refine wpI_takeP (i := 9) (v := ?_) rfl (by kernel_rfl) (by kernel_rfl) (by kernel_rfl) (by first | exact fun _ _ _ h => h | exact fun _ _ _ h => HQ0.out _ _ _ _ _ h) (Or.inl ⟨by rfl, ?hy⟩) ?_; (case hy => (intro W; go_simp; (try with_reducible rfl))))
      | (refine wpI_takeP (i := 9) (v := undef) rfl (by kernel_rfl) (by kernel_rfl) (by kernel_rfl) (by first | exact fun _ _ _ h => h | exact fun _ _ _ h => HQ0.out _ _ _ _ _ h) (Or.inr ⟨by rfl, rfl⟩) ?_)
      simp only [Act.put, List.getElem_toArray, List.getElem_cons_succ, List.getElem_cons_zero, List.setIfInBounds_toArray, List.set_cons_zero, List.set_cons_succ]
      first
      | (refine wpI_takeP (i := 10) (v := ?_) rfl (by kernel_rfl) (by kernel_rfl) (by kernel_rfl) (by first | exact fun _ _ _ h => h | exact fun _ _ _ h => HQ0.out _ _ _ _ _ h) (Or.inl ⟨by rfl, ?hy⟩) ?_; (case hy => (intro W; go_simp; (try with_reducible rfl))))
      | (refine wpI_takeP (i := 10) (v := undef) rfl (by kernel_rfl) (by kernel_rfl) (by kernel_rfl) (by first | exact fun _ _ _ h => h | exact fun _ _ _ h => HQ0.out _ _ _ _ _ h) (Or.inr ⟨by rfl, rfl⟩) ?_)
      simp only [Act.put, List.getElem_toArray, List.getElem_cons_succ, List.getElem_cons_zero, List.setIfInBounds_toArray, List.set_cons_zero, List.set_cons_succ]
      first
      | (refine wpI_takeP (i := 11) (v := ?_) rfl (by kernel_rfl) (by kernel_rfl) (by kernel_rfl) (by first | exact fun _ _ _ h => h | exact fun _ _ _ h => HQ0.out _ _ _ _ _ h) (Or.inl ⟨by rfl, ?hy⟩) ?_; (case hy => (intro W; go_simp; (try with_reducible rfl))))
      | (refine wpI_takeP (i := 11) (v := undef) rfl (by kernel_rfl) (by kernel_rfl) (by kernel_rfl) (by first | exact fun _ _ _ h => h | exact fun _ _ _ h => HQ0.out _ _ _ _ _ h) (Or.inr ⟨by rfl, rfl⟩) ?_)
      simp only [Act.put, List.getElem_toArray, List.getElem_cons_succ, List.getElem_cons_zero, List.setIfInBounds_toArray, List.set_cons_zero, List.set_cons_succ]
      first
      | (refine wpI_takeT (i := 12) (v := ?_) rfl (by kernel_rfl) (by kernel_rfl) (by kernel_rfl) (by kernel_rfl) (by first | exact fun _ _ _ h => h | exact fun _ _ _ h => HQ0.out _ _ _ _ _ h) ⟨fun r hr => hM.get 0 hr, fun r hr => hM.get 1 hr, trivial⟩ (Or.inl ⟨by rfl, ?hy⟩) ?_; (case hy => (rintro W ⟨i0, i1, -⟩; have c0 := (show At W _ _ _ from i0 _ rfl).cell; have c1 := HW1.out W (i1 _ rfl); go_simp; (try with_reducible rfl))))
      | (refine wpI_takeT (i := 12) (v := undef) rfl (by kernel_rfl) (by kernel_rfl) (by kernel_rfl) (by kernel_rfl) (by first | exact fun _ _ _ h => h | exact fun _ _ _ h => HQ0.out _ _ _ _ _ h) ⟨fun r hr => hM.get 0 hr, fun r hr => hM.get 1 hr, trivial⟩ (Or.inr ⟨by rfl, rfl⟩) ?_)
      simp only [Act.put, List.getElem_toArray, List.getElem_cons_succ, List.getElem_cons_zero, List.setIfInBounds_toArray, List.set_cons_zero, List.set_cons_succ]
      refine wpI_takeP (i := 13) rfl (by kernel_rfl) (by kernel_rfl) (by kernel_rfl) (by first | exact fun _ _ _ h => h | exact fun _ _ _ h => HQ0.out _ _ _ _ _ h) ((yields_andNot (by rfl) _ _ _ _ rfl (bAnd xb 7) rx rfl rfl)) ?_
      simp only [Act.put, List.getElem_toArray, List.getElem_cons_succ, List.getElem_cons_zero, List.setIfInBounds_toArray, List.set_cons_zero, List.set_cons_succ]
      (try simp only [Bool.not_true, Bool.not_false])
      first
      | (refine wpI_takeP (i := 14) (v := ?_) rfl (by kernel_rfl) (by kernel_rfl) (by kernel_rfl) (by first | exact fun _ _ _ h => h | exact fun _ _ _ h => HQ0.out _ _ _ _ _ h) (Or.inl ⟨by rfl, ?hy⟩) ?_; (case hy => (intro W; go_simp; (try with_reducible rfl))))
      | (refine wpI_takeP (i := 14) (v := undef) rfl (by kernel_rfl) (by kernel_rfl) (by kernel_rfl) (by first | exact fun _ _ _ h => h | exact fun _ _ _ h => HQ0.out _ _ _ _ _ h) (Or.inr ⟨by rfl, rfl⟩) ?_)
      simp only [Act.put, List.getElem_toArray, List.getElem_cons_succ, List.getElem_cons_zero, List.setIfInBounds_toArray, List.set_cons_zero, List.set_cons_succ]
      refine wpI_takeP (i := 15) (v := ?_) rfl (by kernel_rfl) (by kernel_rfl) (by kernel_rfl) (by first | exact fun _ _ _ h => h | exact fun _ _ _ h => HQ0.out _ _ _ _ _ h) (Or.inl ⟨by rfl, ?hy⟩) ?_
      case hy => (intro W; go_simp; (try with_reducible rfl))
      simp only [Act.put, List.getElem_toArray, List.getElem_cons_succ, List.getElem_cons_zero, List.setIfInBounds_toArray, List.set_cons_zero, List.set_cons_succ]
      refine wpI_takeP (i := 16) (v := ?_) rfl (by kernel_rfl) (by kernel_rfl) (by kernel_rfl) (by first | exact fun _ _ _ h => h | exact fun _ _ _ h => HQ0.out _ _ _ _ _ h) (Or.inl ⟨by rfl, ?hy⟩) ?_
      case hy => (intro W; go_simp; (try with_reducible rfl))
      simp only [Act.put, List.getElem_toArray, List.getElem_cons_succ, List.getElem_cons_zero, List.setIfInBounds_toArray, List.set_cons_zero, List.set_cons_succ]
      refine wpI_takeP (i := 17) (v := ?_) rfl (by kernel_rfl) (by kernel_rfl) (by kernel_rfl) (by first | exact fun _ _ _ h => h | exact fun _ _ _ h => HQ0.out _ _ _ _ _ h) (Or.inl ⟨by rfl, ?hy⟩) ?_
      case hy => (intro W; go_simp; (try with_reducible rfl))
      simp only [Act.put, List.getElem_toArray, List.getElem_cons_succ, List.getElem_cons_zero, List.setIfInBounds_toArray, List.set_cons_zero, List.set_cons_succ]
      refine wpI_one (i := 18) rfl (by kernel_rfl) ?_
      (try simp only [Act.put, List.getElem_toArray, List.getElem_cons_succ, List.getElem_cons_zero, List.setIfInBounds_toArray, List.set_cons_zero, List.set_cons_succ])
      go_wp2_with (first
          | go_skip
          | ((with_reducible refine at_box_ ?_); refine wpList_box_mem rfl _ _ rfl _ rfl hM ?_; clear hM; intro gb W hM; first | (simp only [List.nil_append] at hM) | (simp only [List.cons_append, List.nil_append] at hM))
          | ((with_reducible refine at_load_ ?_); refine at_wanted_ (by rfl) ?_; refine wpList_loadf_mem (by go_simp) _ _ rfl (by kernel_rfl) 0 _ _ _ _ _ hM rfl rfl (by first | rfl | assumption) ?_)
          | ((with_reducible refine at_store_ ?_); refine wpList_store1_mem rfl _ _ _ rfl 0 _ _ _ _ _ hM rfl rfl (by first | ((conv => lhs; whnf); done) | ((conv => lhs; whnf); rfl)) (by rfl) (by rfl) (by kernel_rfl) rfl ?_; clear hM; intro W hM; simp only [List.set_cons_succ, List.set_cons_zero] at hM))
      refine contI_late (by decide) ?_
      (try simp only [Act.put, List.getElem_toArray, List.getElem_cons_succ, List.getElem_cons_zero, List.setIfInBounds_toArray, List.set_cons_zero, List.set_cons_succ])
      refine wpI_done (by kernel_rfl) ?_ _
      (try simp only [Act.put, List.getElem_toArray, List.getElem_cons_succ, List.getElem_cons_zero, List.setIfInBounds_toArray, List.set_cons_zero, List.set_cons_succ])
      go_wp2_with         (first
          | go_skip
          | ((with_reducible refine at_and_ ?_); refine wpList_valI (by rfl) (exec_and _ _ _ _ rfl _ _ rfl rfl _) ?_)
          | ((with_reducible refine at_or_ ?_); refine wpList_valI (by rfl) (exec_or _ _ _ _ rfl _ _ rfl rfl _) ?_)
          | ((with_reducible refine at_andNot_ ?_); refine wpList_valI (by rfl) (exec_andNot _ _ _ _ rfl _ _ rfl rfl _) ?_)
          | ((with_reducible refine at_box_ ?_); refine wpList_box_mem rfl _ _ rfl _ rfl hM ?_; clear hM; intro gb W hM; first | (simp only [List.nil_append] at hM) | (simp only [List.cons_append, List.nil_append] at hM))
          | ((with_reducible refine at_load_ ?_); refine at_wanted_ (by rfl) ?_; first | (refine wpList_loadf_mem (by go_simp) _ _ rfl (by kernel_rfl) 0 _ _ _ _ _ hM rfl rfl (by first | rfl | assumption) ?_) | (refine wpList_loadf_mem (by go_simp) _ _ rfl (by kernel_rfl) 1 _ _ _ _ _ hM rfl rfl (by first | rfl | assumption) ?_))
          | ((with_reducible refine at_store_ ?_); first | (refine wpList_store1_mem rfl _ _ _ rfl 0 _ _ _ _ _ hM rfl rfl (by first | ((conv => lhs; whnf); done) | ((conv => lhs; whnf); rfl)) (by rfl) (by rfl) (by kernel_rfl) rfl ?_; clear hM; intro W hM; simp only [List.set_cons_succ, List.set_cons_zero] at hM) | (refine wpList_store1_mem rfl _ _ _ rfl 1 _ _ _ _ _ hM rfl rfl (by first | ((conv => lhs; whnf); done) | ((conv => lhs; whnf); rfl)) (by rfl) (by rfl) (by kernel_rfl) rfl ?_; clear hM; intro W hM; simp only [List.set_cons_succ, List.set_cons_zero] at hM)))
      rw [← HPL.out] at hM
      exact HF.out _ hM
  
    · conv => arg 2; whnf
      go_upto_region 23 with         (first
          | go_skip
          | (go_at_call 42; refine (HS.out _ (pl_hand (to_front [sR bs ⟨g0, fx, mx, rx, ex, false⟩, atR gx 40 cs, mapR Try.prog 3 fInt fSP gm m] _ _ hM))).mono ?_; rintro x W ⟨rfl, hM6⟩; replace hM := to_front _ [sR bs ⟨g0, fx, mx, rx, ex, false⟩, atR gx 40 cs, mapR Try.prog 3 fInt fSP gm m] _ (pl_put (to_front [sR bs ⟨g0, fx, mx, rx, ex, false⟩, atR gx 40 cs, mapR Try.prog 3 fInt fSP gm m] _ _ hM) hM6); clear hM6; dsimp only)
          | ((with_reducible refine at_box_ ?_); refine wpList_box_mem rfl _ _ rfl _ rfl hM ?_; clear hM; intro gb W hM; first | (simp only [List.nil_append] at hM) | (simp only [List.cons_append, List.nil_append] at hM))
          | ((with_reducible refine at_load_ ?_); refine at_wanted_ (by rfl) ?_; first | (refine wpList_loadf_mem (by go_simp) _ _ rfl (by kernel_rfl) 0 _ _ _ _ _ hM rfl rfl (by first | rfl | assumption) ?_) | (refine wpList_loadf_mem (by go_simp) _ _ rfl (by kernel_rfl) 1 _ _ _ _ _ hM rfl rfl (by first | rfl | assumption) ?_))
          | ((with_reducible refine at_store_ ?_); first | (refine wpList_store1_mem rfl _ _ _ rfl 0 _ _ _ _ _ hM rfl rfl (by first | ((conv => lhs; whnf); done) | ((conv => lhs; whnf); rfl)) (by rfl) (by rfl) (by kernel_rfl) rfl ?_; clear hM; intro W hM; simp only [List.set_cons_succ, List.set_cons_zero] at hM) | (refine wpList_store1_mem rfl _ _ _ rfl 1 _ _ _ _ _ hM rfl rfl (by first | ((conv => lhs; whnf); done) | ((conv => lhs; whnf); rfl)) (by rfl) (by rfl) (by kernel_rfl) rfl ?_; clear hM; intro W hM; simp only [List.set_cons_succ, List.set_cons_zero] at hM)))
      generalize hPL : pollL g v (ws.set k0 (noteW ⟨g0, fx, mx, rx, ex, false⟩ xb)) ++ zs'.map (sR bs) = PL at hM
      have HPL := Lib.hid hPL
      clear hPL
      replace hM : Mem w W (atR (bs fx) 84 [.int .i64 mx, .int .i64 rx, .bool ex, .bool false] :: atR gx 40 cs :: mapR Try.prog 3 fInt fSP gm m :: PL) := hM
      have HW1 := Lib.hid (fun W (h : (atR gx 40 cs).P W) => ((show At W _ _ _ from h).cell 2).trans hxb)
      refine wp_region_M [0,1] [18] hM (by kernel_rfl) ?_
      clear hM
      intro wo hM
      refine wpI_takeP (i := 0) (v := ?_) rfl (by kernel_rfl) (by kernel_rfl) (by kernel_rfl) (by first | exact fun _ _ _ h => h | exact fun _ _ _ h => HQ0.out _ _ _ _ _ h) (Or.inl ⟨by rfl, ?hy⟩) ?_
      case hy => (intro W; go_simp; (try with_reducible rfl))
      simp only [Act.put, List.getElem_toArray, List.getElem_cons_succ, List.getElem_cons_zero, List.setIfInBounds_toArray, List.set_cons_zero, List.set_cons_succ]
      refine wpI_takeP (i := 1) (v := ?_) rfl (by kernel_rfl) (by kernel_rfl) (by kernel_rfl) (by first | exact fun _ _ _ h => h | exact fun _ _ _ h => HQ0.out _ _ _ _ _ h) (Or.inl ⟨by rfl, ?hy⟩) ?_
      case hy => (intro W; go_simp; (try with_reducible rfl))
      simp only [Act.put, List.getElem_toArray, List.getElem_cons_succ, List.getElem_cons_zero, List.setIfInBounds_toArray, List.set_cons_zero, List.set_cons_succ]
      refine wpI_takeP (i := 2) (v := ?_) rfl (by kernel_rfl) (by kernel_rfl) (by kernel_rfl) (by first | exact fun _ _ _ h => h | exact fun _ _ _ h => HQ0.out _ _ _ _ _ h) (Or.inl ⟨by rfl, ?hy⟩) ?_
      case hy => (intro W; go_simp; (try with_reducible rfl))
      simp only [Act.put, List.getElem_toArray, List.getElem_cons_succ, List.getElem_cons_zero, List.setIfInBounds_toArray, List.set_cons_zero, List.set_cons_succ]
      refine wpI_takeP (i := 3) (v := ?_) rfl (by kernel_rfl) (by kernel_rfl) (by kernel_rfl) (by first | exact fun _ _ _ h => h | exact fun _ _ _ h => HQ0.out _ _ _ _ _ h) (Or.inl ⟨by rfl, ?hy⟩) ?_
      case hy => (intro W; go_simp; (try with_reducible rfl))
      simp only [Act.put, List.getElem_toArray, List.getElem_cons_succ, List.getElem_cons_zero, List.setIfInBounds_toArray, List.set_cons_zero, List.set_cons_succ]
      refine wpI_takeT (i := 4) (v := ?_) rfl (by kernel_rfl) (by kernel_rfl) (by kernel_rfl) (by kernel_rfl) (by first | exact fun _ _ _ h => h | exact fun _ _ _ h => HQ0.out _ _ _ _ _ h) ⟨fun r hr => hM.get 0 hr, fun r hr => hM.get 1 hr, trivial⟩ (Or.inl ⟨by rfl, ?hy⟩) ?_
      case hy => (rintro W ⟨i0, i1, -⟩; have c0 := (show At W _ _ _ from i0 _ rfl).cell; have c1 := HW1.out W (i1 _ rfl); go_simp; (try with_reducible rfl))
      simp only [Act.put, List.getElem_toArray, List.getElem_cons_succ, List.getElem_cons_zero, List.setIfInBounds_toArray, List.set_cons_zero, List.set_cons_succ]
      refine wpI_takeP (i := 5) (v := ?_) rfl (by kernel_rfl) (by kernel_rfl) (by kernel_rfl) (by first | exact fun _ _ _ h => h | exact fun _ _ _ h => HQ0.out _ _ _ _ _ h) (Or.inl ⟨by rfl, ?hy⟩) ?_
      case hy => (intro W; go_simp; (try with_reducible rfl))
      simp only [Act.put, List.getElem_toArray, List.getElem_cons_succ, List.getElem_cons_zero, List.setIfInBounds_toArray, List.set_cons_zero, List.set_cons_succ]
      first
      | (refine wpI_takeP (i := 6) (v := ?_) rfl (by kernel_rfl) (by kernel_rfl) (by kernel_rfl) (by first | exact fun _ _ _ h => h | exact fun _ _ _ h => HQ0.out _ _ _ _ _ h) (Or.inl ⟨by rfl, ?hy⟩) ?_; (case hy => (intro W; go_simp; (try with_reducible rfl))))
      | (refine wpI_takeP (i := 6) (v := undef) rfl (by kernel_rfl) (by kernel_rfl) (by kernel_rfl) (by first | exact fun _ _ _ h => h | exact fun _ _ _ h => HQ0.out _ _ _ _ _ h) (Or.inr ⟨by rfl, rfl⟩) ?_)
      simp only [Act.put, List.getElem_toArray, List.getElem_cons_succ, List.getElem_cons_zero, List.setIfInBounds_toArray, List.set_cons_zero, List.set_cons_succ]
      first
      | (refine wpI_takeT (i := 7) (v := ?_) rfl (by kernel_rfl) (by kernel_rfl) (by kernel_rfl) (by kernel_rfl) (by first | exact fun _ _ _ h => h | exact fun _ _ _ h => HQ0.out _ _ _ _ _ h) ⟨fun r hr => hM.get 0 hr, fun r hr => hM.get 1 hr, trivial⟩ (Or.inl ⟨by rfl, ?hy⟩) ?_; (case hy => (rintro W ⟨i0, i1, -⟩; have c0 := (show At W _ _ _ from i0 _ rfl).cell; have c1 := HW1.out W (i1 _ rfl); go_simp; (try with_reducible rfl))))
      | (refine wpI_takeT (i := 7) (v := undef) rfl (by kernel_rfl) (by kernel_rfl) (by kernel_rfl) (by kernel_rfl) (by first | exact fun _ _ _ h => h | exact fun _ _ _ h => HQ0.out _ _ _ _ _ h) ⟨fun r hr => hM.get 0 hr, fun r hr => hM.get 1 hr, trivial⟩ (Or.inr ⟨by rfl, rfl⟩) ?_)
      simp only [Act.put, List.getElem_toArray, List.getElem_cons_succ, List.getElem_cons_zero, List.setIfInBounds_toArray, List.set_cons_zero, List.set_cons_succ]
      refine wpI_takeP (i := 8) rfl (by kernel_rfl) (by kernel_rfl) (by kernel_rfl) (by first | exact fun _ _ _ h => h | exact fun _ _ _ h => HQ0.out _ _ _ _ _ h) ((yields_and (by rfl) _ _ _ _ rfl xb 7 rfl rfl)) ?_
      simp only [Act.put, List.getElem_toArray, List.getElem_cons_succ, List.getElem_cons_zero, List.setIfInBounds_toArray, List.set_cons_zero, List.set_cons_succ]
      (try simp only [Bool.not_true, Bool.not_false])
      first
      | (refine wpI_takeP (i := 9) (v := ?_) rfl (by kernel_rfl) (by kernel_rfl) (by kernel_rfl) (by first | exact fun _ _ _ h => h | exact fun _ _ _ h => HQ0.out _ _ _ _ _ h) (Or.inl ⟨by rfl, ?hy⟩) ?_; (case hy => (intro W; go_simp; (try with_reducible rfl))))
      | (refine wpI_takeP (i := 9) (v := undef) rfl (by kernel_rfl) (by kernel_rfl) (by kernel_rfl) (by first | exact fun _ _ _ h => h | exact fun _ _ _ h => HQ0.out _ _ _ _ _ h) (Or.inr ⟨by rfl, rfl⟩) ?_)
      simp only [Act.put, List.getElem_toArray, List.getElem_cons_succ, List.getElem_cons_zero, List.setIfInBounds_toArray, List.set_cons_zero, List.set_cons_succ]
      first
      | (refine wpI_takeP (i := 10) (v := ?_) rfl (by kernel_rfl) (by kernel_rfl) (by kernel_rfl) (by first | exact fun _ _ _ h => h | exact fun _ _ _ h => HQ0.out _ _ _ _ _ h) (Or.inl ⟨by rfl, ?hy⟩) ?_; (case hy => (intro W; go_simp; (try with_reducible rfl))))
      | (refine wpI_takeP (i := 10) (v := undef) rfl (by kernel_rfl) (by kernel_rfl) (by kernel_rfl) (by first | exact fun _ _ _ h => h | exact fun _ _ _ h => HQ0.out _ _ _ _ _ h) (Or.inr ⟨by rfl, rfl⟩) ?_)
      simp only [Act.put, List.getElem_toArray, List.getElem_cons_succ, List.getElem_cons_zero, List.setIfInBounds_toArray, List.set_cons_zero, List.set_cons_succ]
      first
      | (refine wpI_takeP (i := 11) (v := ?_) rfl (by kernel_rfl) (by kernel_rfl) (by kernel_rfl) (by first | exact fun _ _ _ h => h | exact fun _ _ _ h => HQ0.out _ _ _ _ _ h) (Or.inl ⟨by rfl, ?hy⟩) ?_; (case hy => (intro W; go_simp; (try with_reducible rfl))))
      | (refine wpI_takeP (i := 11) (v := undef) rfl (by kernel_rfl) (by kernel_rfl) (by kernel_rfl) (by first | exact fun _ _ _ h => h | exact fun _ _ _ h => HQ0.out _ _ _ _ _ h) (Or.inr ⟨by rfl, rfl⟩) ?_)
      simp only [Act.put, List.getElem_toArray, List.getElem_cons_succ, List.getElem_cons_zero, List.setIfInBounds_toArray, List.set_cons_zero, List.set_cons_succ]
      first
      | (refine wpI_takeT (i := 12) (v := ?_) rfl (by kernel_rfl) (by kernel_rfl) (by kernel_rfl) (by kernel_rfl) (by first | exact fun _ _ _ h => h | exact fun _ _ _ h => HQ0.out _ _ _ _ _ h) ⟨fun r hr => hM.get 0 hr, fun r hr => hM.get 1 hr, trivial⟩ (Or.inl ⟨by rfl, ?hy⟩) ?_; (case hy => (rintro W ⟨i0, i1, -⟩; have c0 := (show At W _ _ _ from i0 _ rfl).cell; have c1 := HW1.out W (i1 _ rfl); go_simp; (try with_reducible rfl))))
      | (refine wpI_takeT (i := 12) (v := undef) rfl (by kernel_rfl) (by kernel_rfl) (by kernel_rfl) (by kernel_rfl) (by first | exact fun _ _ _ h => h | exact fun _ _ _ h => HQ0.out _ _ _ _ _ h) ⟨fun r hr => hM.get 0 hr, fun r hr => hM.get 1 hr, trivial⟩ (Or.inr ⟨by rfl, rfl⟩) ?_)
      simp only [Act.put, List.getElem_toArray, List.getElem_cons_succ, List.getElem_cons_zero, List.setIfInBounds_toArray, List.set_cons_zero, List.set_cons_succ]
      refine wpI_takeP (i := 13) rfl (by kernel_rfl) (by kernel_rfl) (by kernel_rfl) (by first | exact fun _ _ _ h => h | exact fun _ _ _ h => HQ0.out _ _ _ _ _ h) ((yields_andNot (by rfl) _ _ _ _ rfl (bAnd xb 7) rx rfl rfl)) ?_
      simp only [Act.put, List.getElem_toArray, List.getElem_cons_succ, List.getElem_cons_zero, List.setIfInBounds_toArray, List.set_cons_zero, List.set_cons_succ]
      (try simp only [Bool.not_true, Bool.not_false])
      first
      | (refine wpI_takeP (i := 14) (v := ?_) rfl (by kernel_rfl) (by kernel_rfl) (by kernel_rfl) (by first | exact fun _ _ _ h => h | exact fun _ _ _ h => HQ0.out _ _ _ _ _ h) (Or.inl ⟨by rfl, ?hy⟩) ?_; (case hy => (intro W; go_simp; (try with_reducible rfl))))
      | (refine wpI_takeP (i := 14) (v := undef) rfl (by kernel_rfl) (by kernel_rfl) (by kernel_rfl) (by first | exact fun _ _ _ h => h | exact fun _ _ _ h => HQ0.out _ _ _ _ _ h) (Or.inr ⟨by rfl, rfl⟩) ?_)
      simp only [Act.put, List.getElem_toArray, List.getElem_cons_succ, List.getElem_cons_zero, List.setIfInBounds_toArray, List.set_cons_zero, List.set_cons_succ]
      refine wpI_takeP (i := 15) (v := ?_) rfl (by kernel_rfl) (by kernel_rfl) (by kernel_rfl) (by first | exact fun _ _ _ h => h | exact fun _ _ _ h => HQ0.out _ _ _ _ _ h) (Or.inl ⟨by rfl, ?hy⟩) ?_
      case hy => (intro W; go_simp; (try with_reducible rfl))
      simp only [Act.put, List.getElem_toArray, List.getElem_cons_succ, List.getElem_cons_zero, List.setIfInBounds_toArray, List.set_cons_zero, List.set_cons_succ]
      refine wpI_takeP (i := 16) (v := ?_) rfl (by kernel_rfl) (by kernel_rfl) (by kernel_rfl) (by first | exact fun _ _ _ h => h | exact fun _ _ _ h => HQ0.out _ _ _ _ _ h) (Or.inl ⟨by rfl, ?hy⟩) ?_
      case hy => (intro W; go_simp; (try with_reducible rfl))
      simp only [Act.put, List.getElem_toArray, List.getElem_cons_succ, List.getElem_cons_zero, List.setIfInBounds_toArray, List.set_cons_zero, List.set_cons_succ]
      refine wpI_takeP (i := 17) (v := ?_) rfl (by kernel_rfl) (by kernel_rfl) (by kernel_rfl) (by first | exact fun _ _ _ h => h | exact fun _ _ _ h => HQ0.out _ _ _ _ _ h) (Or.inl ⟨by rfl, ?hy⟩) ?_
      case hy => (intro W; go_simp; (try with_reducible rfl))
      simp only [Act.put, List.getElem_toArray, List.getElem_cons_succ, List.getElem_cons_zero, List.setIfInBounds_toArray, List.set_cons_zero, List.set_cons_succ]
      refine wpI_one (i := 18) rfl (by kernel_rfl) ?_
      (try simp only [Act.put, List.getElem_toArray, List.getElem_cons_succ, List.getElem_cons_zero, List.setIfInBounds_toArray, List.set_cons_zero, List.set_cons_succ])
      go_wp2_with (first
          | go_skip
          | ((with_reducible refine at_box_ ?_); refine wpList_box_mem rfl _ _ rfl _ rfl hM ?_; clear hM; intro gb W hM; first | (simp only [List.nil_append] at hM) | (simp only [List.cons_append, List.nil_append] at hM))
          | ((with_reducible refine at_load_ ?_); refine at_wanted_ (by rfl) ?_; refine wpList_loadf_mem (by go_simp) _ _ rfl (by kernel_rfl) 0 _ _ _ _ _ hM rfl rfl (by first | rfl | assumption) ?_)
          | ((with_reducible refine at_store_ ?_); refine wpList_store1_mem rfl _ _ _ rfl 0 _ _ _ _ _ hM rfl rfl (by first | ((conv => lhs; whnf); done) | ((conv => lhs; whnf); rfl)) (by rfl) (by rfl) (by kernel_rfl) rfl ?_; clear hM; intro W hM; simp only [List.set_cons_succ, List.set_cons_zero] at hM))
      refine contI_late (by decide) ?_
      (try simp only [Act.put, List.getElem_toArray, List.getElem_cons_succ, List.getElem_cons_zero, List.setIfInBounds_toArray, List.set_cons_zero, List.set_cons_succ])
      refine wpI_done (by kernel_rfl) ?_ _
      (try simp only [Act.put, List.getElem_toArray, List.getElem_cons_succ, List.getElem_cons_zero, List.setIfInBounds_toArray, List.set_cons_zero, List.set_cons_succ])
      go_wp2_with         (first
          | go_skip
          | ((with_reducible refine at_and_ ?_); refine wpList_valI (by rfl) (exec_and _ _ _ _ rfl _ _ rfl rfl _) ?_)
          | ((with_reducible refine at_or_ ?_); refine wpList_valI (by rfl) (exec_or _ _ _ _ rfl _ _ rfl rfl _) ?_)
          | ((with_reducible refine at_andNot_ ?_); refine wpList_valI (by rfl) (exec_andNot _ _ _ _ rfl _ _ rfl rfl _) ?_)
          | ((with_reducible refine at_box_ ?_); refine wpList_box_mem rfl _ _ rfl _ rfl hM ?_; clear hM; intro gb W hM; first | (simp only [List.nil_append] at hM) | (simp only [List.cons_append, List.nil_append] at hM))
          | ((with_reducible refine at_load_ ?_); refine at_wanted_ (by rfl) ?_; first | (refine wpList_loadf_mem (by go_simp) _ _ rfl (by kernel_rfl) 0 _ _ _ _ _ hM rfl rfl (by first | rfl | assumption) ?_) | (refine wpList_loadf_mem (by go_simp) _ _ rfl (by kernel_rfl) 1 _ _ _ _ _ hM rfl rfl (by first | rfl | assumption) ?_))
          | ((with_reducible refine at_store_ ?_); first | (refine wpList_store1_mem rfl _ _ _ rfl 0 _ _ _ _ _ hM rfl rfl (by first | ((conv => lhs; whnf); done) | ((conv => lhs; whnf); rfl)) (by rfl) (by rfl) (by kernel_rfl) rfl ?_; clear hM; intro W hM; simp only [List.set_cons_succ, List.set_cons_zero] at hM) | (refine wpList_store1_mem rfl _ _ _ rfl 1 _ _ _ _ _ hM rfl rfl (by first | ((conv => lhs; whnf); done) | ((conv => lhs; whnf); rfl)) (by rfl) (by rfl) (by kernel_rfl) rfl ?_; clear hM; intro W hM; simp only [List.set_cons_succ, List.set_cons_zero] at hM)))
      rw [← HPL.out] at hM
      exact HF.out _ hM
  
  · have HC := Lib.hid h
    rcases h with rfl | rfl
    · conv => arg 2; whnf
      go_upto_region 23 with         (first
          | go_skip
          | (go_at_call 42; refine (HS.out _ (pl_hand (to_front [sR bs ⟨g0, fx, mx, rx, ex, true⟩, atR gx 40 cs, mapR Try.prog 3 fInt fSP gm m] _ _ hM))).mono ?_; rintro x W ⟨rfl, hM6⟩; replace hM := to_front _ [sR bs ⟨g0, fx, mx, rx, ex, true⟩, atR gx 40 cs, mapR Try.prog 3 fInt fSP gm m] _ (pl_put (to_front [sR bs ⟨g0, fx, mx, rx, ex, true⟩, atR gx 40 cs, mapR Try.prog 3 fInt fSP gm m] _ _ hM) hM6); clear hM6; dsimp only)
          | ((with_reducible refine at_box_ ?_); refine wpList_box_mem rfl _ _ rfl _ rfl hM ?_; clear hM; intro gb W hM; first | (simp only [List.nil_append] at hM) | (simp only [List.cons_append, List.nil_append] at hM))
          | ((with_reducible refine at_load_ ?_); refine at_wanted_ (by rfl) ?_; first | (refine wpList_loadf_mem (by go_simp) _ _ rfl (by kernel_rfl) 0 _ _ _ _ _ hM rfl rfl (by first | rfl | assumption) ?_) | (refine wpList_loadf_mem (by go_simp) _ _ rfl (by kernel_rfl) 1 _ _ _ _ _ hM rfl rfl (by first | rfl | assumption) ?_))
          | ((with_reducible refine at_store_ ?_); first | (refine wpList_store1_mem rfl _ _ _ rfl 0 _ _ _ _ _ hM rfl rfl (by first | ((conv => lhs; whnf); done) | ((conv => lhs; whnf); rfl)) (by rfl) (by rfl) (by kernel_rfl) rfl ?_; clear hM; intro W hM; simp only [List.set_cons_succ, List.set_cons_zero] at hM) | (refine wpList_store1_mem rfl _ _ _ rfl 1 _ _ _ _ _ hM rfl rfl (by first | ((conv => lhs; whnf); done) | ((conv => lhs; whnf); rfl)) (by rfl) (by rfl) (by kernel_rfl) rfl ?_; clear hM; intro W hM; simp only [List.set_cons_succ, List.set_cons_zero] at hM)))
      generalize hPL : pollL g v (ws.set k0 (noteW ⟨g0, fx, mx, rx, ex, true⟩ xb)) ++ zs'.map (sR bs) = PL at hM
      have HPL := Lib.hid hPL
      clear hPL
      replace hM : Mem w W (atR (bs fx) 84 [.int .i64 mx, .int .i64 rx, .bool ex, .bool true] :: atR gx 40 cs :: mapR Try.prog 3 fInt fSP gm m :: PL) := hM
      have HW1 := Lib.hid (fun W (h : (atR gx 40 cs).P W) => ((show At W _ _ _ from h).cell 2).trans hxb)
      refine wp_region_M [0,1] [18] hM (by kernel_rfl) ?_
      clear hM
      intro wo hM
      refine wpI_takeP (i := 0) (v := ?_) rfl (by kernel_rfl) (by kernel_rfl) (by kernel_rfl) (by first | exact fun _ _ _ h => h | exact fun _ _ _ h => HQ0.out _ _ _ _ _ h) (Or.inl ⟨by rfl, ?hy⟩) ?_
      case hy => (intro W; go_simp; (try with_reducible rfl))
      simp only [Act.put, List.getElem_toArray, List.getElem_cons_succ, List.getElem_cons_zero, List.setIfInBounds_toArray, List.set_cons_zero, List.set_cons_succ]
      refine wpI_takeP (i := 1) (v := ?_) rfl (by kernel_rfl) (by kernel_rfl) (by kernel_rfl) (by first | exact fun _ _ _ h => h | exact fun _ _ _ h => HQ0.out _ _ _ _ _ h) (Or.inl ⟨by rfl, ?hy⟩) ?_
      case hy => (intro W; go_simp; (try with_reducible rfl))
      simp only [Act.put, List.getElem_toArray, List.getElem_cons_succ, List.getElem_cons_zero, List.setIfInBounds_toArray, List.set_cons_zero, List.set_cons_succ]
      refine wpI_takeP (i := 2) (v := ?_) rfl (by kernel_rfl) (by kernel_rfl) (by kernel_rfl) (by first | exact fun _ _ _ h => h | exact fun _ _ _ h => HQ0.out _ _ _ _ _ h) (Or.inl ⟨by rfl, ?hy⟩) ?_
      case hy => (intro W; go_simp; (try with_reducible rfl))
      simp only [Act.put, List.getElem_toArray, List.getElem_cons_succ, List.getElem_cons_zero, List.setIfInBounds_toArray, List.set_cons_zero, List.set_cons_succ]
      refine wpI_takeP (i := 3) (v := ?_) rfl (by kernel_rfl) (by kernel_rfl) (by kernel_rfl) (by first | exact fun _ _ _ h => h | exact fun _ _ _ h => HQ0.out _ _ _ _ _ h) (Or.inl ⟨by rfl, ?hy⟩) ?_
      case hy => (intro W; go_simp; (try with_reducible rfl))
      simp only [Act.put, List.getElem_toArray, List.getElem_cons_succ, List.getElem_cons_zero, List.setIfInBounds_toArray, List.set_cons_zero, List.set_cons_succ]
      refine wpI_takeT (i := 4) (v := ?_) rfl (by kernel_rfl) (by kernel_rfl) (by kernel_rfl) (by kernel_rfl) (by first | exact fun _ _ _ h => h | exact fun _ _ _ h => HQ0.out _ _ _ _ _ h) ⟨fun r hr => hM.get 0 hr, fun r hr => hM.get 1 hr, trivial⟩ (Or.inl ⟨by rfl, ?hy⟩) ?_
      case hy => (rintro W ⟨i0, i1, -⟩; have c0 := (show At W _ _ _ from i0 _ rfl).cell; have c1 := HW1.out W (i1 _ rfl); go_simp; (try with_reducible rfl))
      simp only [Act.put, List.getElem_toArray, List.getElem_cons_succ, List.getElem_cons_zero, List.setIfInBounds_toArray, List.set_cons_zero, List.set_cons_succ]
      refine wpI_takeP (i := 5) (v := ?_) rfl (by kernel_rfl) (by kernel_rfl) (by kernel_rfl) (by first | exact fun _ _ _ h => h | exact fun _ _ _ h => HQ0.out _ _ _ _ _ h) (Or.inl ⟨by rfl, ?hy⟩) ?_
      case hy => (intro W; go_simp; (try with_reducible rfl))
      simp only [Act.put, List.getElem_toArray, List.getElem_cons_succ, List.getElem_cons_zero, List.setIfInBounds_toArray, List.set_cons_zero, List.set_cons_succ]
      first
      | (refine wpI_takeP (i := 6) (v := ?_) rfl (by kernel_rfl) (by kernel_rfl) (by kernel_rfl) (by first | exact fun _ _ _ h => h | exact fun _ _ _ h => HQ0.out _ _ _ _ _ h) (Or.inl ⟨by rfl, ?hy⟩) ?_; (case hy => (intro W; go_simp; (try with_reducible rfl))))
      | (refine wpI_takeP (i := 6) (v := undef) rfl (by kernel_rfl) (by kernel_rfl) (by kernel_rfl) (by first | exact fun _ _ _ h => h | exact fun _ _ _ h => HQ0.out _ _ _ _ _ h) (Or.inr ⟨by rfl, rfl⟩) ?_)
      simp only [Act.put, List.getElem_toArray, List.getElem_cons_succ, List.getElem_cons_zero, List.setIfInBounds_toArray, List.set_cons_zero, List.set_cons_succ]
      first
      | (refine wpI_takeT (i := 7) (v := ?_) rfl (by kernel_rfl) (by kernel_rfl) (by kernel_rfl) (by kernel_rfl) (by first | exact fun _ _ _ h => h | exact fun _ _ _ h => HQ0.out _ _ _ _ _ h) ⟨fun r hr => hM.get 0 hr, fun r hr => hM.get 1 hr, trivial⟩ (Or.inl ⟨by rfl, ?hy⟩) ?_; (case hy => (rintro W ⟨i0, i1, -⟩; have c0 := (show At W _ _ _ from i0 _ rfl).cell; have c1 := HW1.out W (i1 _ rfl); go_simp; (try with_reducible rfl))))
      | (refine wpI_takeT (i := 7) (v := undef) rfl (by kernel_rfl) (by kernel_rfl) (by kernel_rfl) (by kernel_rfl) (by first | exact fun _ _ _ h => h | exact fun _ _ _ h => HQ0.out _ _ _ _ _ h) ⟨fun r hr => hM.get 0 hr, fun r hr => hM.get 1 hr, trivial⟩ (Or.inr ⟨by rfl, rfl⟩) ?_)
      simp only [Act.put, List.getElem_toArray, List.getElem_cons_succ, List.getElem_cons_zero, List.setIfInBounds_toArray, List.set_cons_zero, List.set_cons_succ]
      refine wpI_takeP (i := 8) rfl (by kernel_rfl) (by kernel_rfl) (by kernel_rfl) (by first | exact fun _ _ _ h => h | exact fun _ _ _ h => HQ0.out _ _ _ _ _ h) ((Or.inr ⟨by rfl, rfl⟩)) ?_
      simp only [Act.put, List.getElem_toArray, List.getElem_cons_succ, List.getElem_cons_zero, List.setIfInBounds_toArray, List.set_cons_zero, List.set_cons_succ]
      (try simp only [Bool.not_true, Bool.not_false])
      first
      | (refine wpI_takeP (i := 9) (v := ?_) rfl (by kernel_rfl) (by kernel_rfl) (by kernel_rfl) (by first | exact fun _ _ _ h => h | exact fun _ _ _ h => HQ0.out _ _ _ _ _ h) (Or.inl ⟨by rfl, ?hy⟩) ?_; (case hy => (intro W; go_simp; (try with_reducible rfl))))
      | (refine wpI_takeP (i := 9) (v := undef) rfl (by kernel_rfl) (by kernel_rfl) (by kernel_rfl) (by first | exact fun _ _ _ h => h | exact fun _ _ _ h => HQ0.out _ _ _ _ _ h) (Or.inr ⟨by rfl, rfl⟩) ?_)
      simp only [Act.put, List.getElem_toArray, List.getElem_cons_succ, List.getElem_cons_zero, List.setIfInBounds_toArray, List.set_cons_zero, List.set_cons_succ]
      first
      | (refine wpI_takeP (i := 10) (v := ?_) rfl (by kernel_rfl) (by kernel_rfl) (by kernel_rfl) (by first | exact fun _ _ _ h => h | exact fun _ _ _ h => HQ0.out _ _ _ _ _ h) (Or.inl ⟨by rfl, ?hy⟩) ?_; (case hy => (intro W; go_simp; (try with_reducible rfl))))
      | (refine wpI_takeP (i := 10) (v := undef) rfl (by kernel_rfl) (by kernel_rfl) (by kernel_rfl) (by first | exact fun _ _ _ h => h | exact fun _ _ _ h => HQ0.out _ _ _ _ _ h) (Or.inr ⟨by rfl, rfl⟩) ?_)
      simp only [Act.put, List.getElem_toArray, List.getElem_cons_succ, List.getElem_cons_zero, List.setIfInBounds_toArray, List.set_cons_zero, List.set_cons_succ]
      first
      | (refine wpI_takeP (i := 11) (v := ?_) rfl (by kernel_rfl) (by kernel_rfl) (by kernel_rfl) (by first | exact fun _ _ _ h => h | exact fun _ _ _ h => HQ0.out _ _ _ _ _ h) (Or.inl ⟨by rfl, ?hy⟩) ?_; (case hy => (intro W; go_simp; (try with_reducible rfl))))
      | (refine wpI_takeP (i := 11) (v := undef) rfl (by kernel_rfl) (by kernel_rfl) (by kernel_rfl) (by first | exact fun _ _ _ h => h | exact fun _ _ _ h => HQ0.out _ _ _ _ _ h) (Or.inr ⟨by rfl, rfl⟩) ?_)
      simp only [Act.put, List.getElem_toArray, List.getElem_cons_succ, List.getElem_cons_zero, List.setIfInBounds_toArray, List.set_cons_zero, List.set_cons_succ]
      first
      | (refine wpI_takeT (i := 12) (v := ?_) rfl (by kernel_rfl) (by kernel_rfl) (by kernel_rfl) (by kernel_rfl) (by first | exact fun _ _ _ h => h | exact fun _ _ _ h => HQ0.out _ _ _ _ _ h) ⟨fun r hr => hM.get 0 hr, fun r hr => hM.get 1 hr, trivial⟩ (Or.inl ⟨by rfl, ?hy⟩) ?_; (case hy => (rintro W ⟨i0, i1, -⟩; have c0 := (show At W _ _ _ from i0 _ rfl).cell; have c1 := HW1.out W (i1 _ rfl); go_simp; (try with_reducible rfl))))
      | (refine wpI_takeT (i := 12) (v := undef) rfl (by kernel_rfl) (by kernel_rfl) (by kernel_rfl) (by kernel_rfl) (by first | exact fun _ _ _ h => h | exact fun _ _ _ h => HQ0.out _ _ _ _ _ h) ⟨fun r hr => hM.get 0 hr, fun r hr => hM.get 1 hr, trivial⟩ (Or.inr ⟨by rfl, rfl⟩) ?_)
      simp only [Act.put, List.getElem_toArray, List.getElem_cons_succ, List.getElem_cons_zero, List.setIfInBounds_toArray, List.set_cons_zero, List.set_cons_succ]
      refine wpI_takeP (i := 13) rfl (by kernel_rfl) (by kernel_rfl) (by kernel_rfl) (by first | exact fun _ _ _ h => h | exact fun _ _ _ h => HQ0.out _ _ _ _ _ h) ((Or.inr ⟨by rfl, rfl⟩)) ?_
      simp only [Act.put, List.getElem_toArray, List.getElem_cons_succ, List.getElem_cons_zero, List.setIfInBounds_toArray, List.set_cons_zero, List.set_cons_succ]
      (try simp only [Bool.not_true, Bool.not_false])
      first
      | (refine wpI_takeP (i := 14) (v := ?_) rfl (by kernel_rfl) (by kernel_rfl) (by kernel_rfl) (by first | exact fun _ _ _ h => h | exact fun _ _ _ h => HQ0.out _ _ _ _ _ h) (Or.inl ⟨by rfl, ?hy⟩) ?_; (case hy => (intro W; go_simp; (try with_reducible rfl))))
      | (refine wpI_takeP (i := 14) (v := undef) rfl (by kernel_rfl) (by kernel_rfl) (by kernel_rfl) (by first | exact fun _ _ _ h => h | exact fun _ _ _ h => HQ0.out _ _ _ _ _ h) (Or.inr ⟨by rfl, rfl⟩) ?_)
      simp only [Act.put, List.getElem_toArray, List.getElem_cons_succ, List.getElem_cons_zero, List.setIfInBounds_toArray, List.set_cons_zero, List.set_cons_succ]
      refine wpI_takeP (i := 15) (v := ?_) rfl (by kernel_rfl) (by kernel_rfl) (by kernel_rfl) (by first | exact fun _ _ _ h => h | exact fun _ _ _ h => HQ0.out _ _ _ _ _ h) (Or.inl ⟨by rfl, ?hy⟩) ?_
      case hy => (intro W; go_simp; (try with_reducible rfl))
      simp only [Act.put, List.getElem_toArray, List.getElem_cons_succ, List.getElem_cons_zero, List.setIfInBounds_toArray, List.set_cons_zero, List.set_cons_succ]
      refine wpI_takeP (i := 16) (v := ?_) rfl (by kernel_rfl) (by kernel_rfl) (by kernel_rfl) (by first | exact fun _ _ _ h => h | exact fun _ _ _ h => HQ0.out _ _ _ _ _ h) (Or.inl ⟨by rfl, ?hy⟩) ?_
      case hy => (intro W; go_simp; (try with_reducible rfl))
      simp only [Act.put, List.getElem_toArray, List.getElem_cons_succ, List.getElem_cons_zero, List.setIfInBounds_toArray, List.set_cons_zero, List.set_cons_succ]
      refine wpI_takeP (i := 17) (v := ?_) rfl (by kernel_rfl) (by kernel_rfl) (by kernel_rfl) (by first | exact fun _ _ _ h => h | exact fun _ _ _ h => HQ0.out _ _ _ _ _ h) (Or.inl ⟨by rfl, ?hy⟩) ?_
      case hy => (intro W; go_simp; (try with_reducible rfl))
      simp only [Act.put, List.getElem_toArray, List.getElem_cons_succ, List.getElem_cons_zero, List.setIfInBounds_toArray, List.set_cons_zero, List.set_cons_succ]
      refine wpI_one (i := 18) rfl (by kernel_rfl) ?_
      (try simp only [Act.put, List.getElem_toArray, List.getElem_cons_succ, List.getElem_cons_zero, List.setIfInBounds_toArray, List.set_cons_zero, List.set_cons_succ])
      go_wp2_with (first
          | go_skip
          | ((with_reducible refine at_box_ ?_); refine wpList_box_mem rfl _ _ rfl _ rfl hM ?_; clear hM; intro gb W hM; first | (simp only [List.nil_append] at hM) | (simp only [List.cons_append, List.nil_append] at hM))
          | ((with_reducible refine at_load_ ?_); refine at_wanted_ (by rfl) ?_; refine wpList_loadf_mem (by go_simp) _ _ rfl (by kernel_rfl) 0 _ _ _ _ _ hM rfl rfl (by first | rfl | assumption) ?_)
          | ((with_reducible refine at_store_ ?_); refine wpList_store1_mem rfl _ _ _ rfl 0 _ _ _ _ _ hM rfl rfl (by first | ((conv => lhs; whnf); done) | ((conv => lhs; whnf); rfl)) (by rfl) (by rfl) (by kernel_rfl) rfl ?_; clear hM; intro W hM; simp only [List.set_cons_succ, List.set_cons_zero] at hM))
      refine contI_late (by decide) ?_
      (try simp only [Act.put, List.getElem_toArray, List.getElem_cons_succ, List.getElem_cons_zero, List.setIfInBounds_toArray, List.set_cons_zero, List.set_cons_succ])
      refine wpI_done (by kernel_rfl) ?_ _
      (try simp only [Act.put, List.getElem_toArray, List.getElem_cons_succ, List.getElem_cons_zero, List.setIfInBounds_toArray, List.set_cons_zero, List.set_cons_succ])
      go_wp2_with         (first
          | go_skip
          | ((with_reducible refine at_and_ ?_); refine wpList_valI (by rfl) (exec_and _ _ _ _ rfl _ _ rfl rfl _) ?_)
          | ((with_reducible refine at_or_ ?_); refine wpList_valI (by rfl) (exec_or _ _ _ _ rfl _ _ rfl rfl _) ?_)
          | ((with_reducible refine at_andNot_ ?_); refine wpList_valI (by rfl) (exec_andNot _ _ _ _ rfl _ _ rfl rfl _) ?_)
          | ((with_reducible refine at_box_ ?_); refine wpList_box_mem rfl _ _ rfl _ rfl hM ?_; clear hM; intro gb W hM; first | (simp only [List.nil_append] at hM) | (simp only [List.cons_append, List.nil_append] at hM))
          | ((with_reducible refine at_load_ ?_); refine at_wanted_ (by rfl) ?_; first | (refine wpList_loadf_mem (by go_simp) _ _ rfl (by kernel_rfl) 0 _ _ _ _ _ hM rfl rfl (by first | rfl | assumption) ?_) | (refine wpList_loadf_mem (by go_simp) _ _ rfl (by kernel_rfl) 1 _ _ _ _ _ hM rfl rfl (by first | rfl | assumption) ?_))
          | ((with_reducible refine at_store_ ?_); first | (refine wpList_store1_mem rfl _ _ _ rfl 0 _ _ _ _ _ hM rfl rfl (by first | ((conv => lhs; whnf); done) | ((conv => lhs; whnf); rfl)) (by rfl) (by rfl) (by kernel_rfl) rfl ?_; clear hM; intro W hM; simp only [List.set_cons_succ, List.set_cons_zero] at hM) | (refine wpList_store1_mem rfl _ _ _ rfl 1 _ _ _ _ _ hM rfl rfl (by first | ((conv => lhs; whnf); done) | ((conv => lhs; whnf); rfl)) (by rfl) (by rfl) (by kernel_rfl) rfl ?_; clear hM; intro W hM; simp only [List.set_cons_succ, List.set_cons_zero] at hM)))
      rw [← HPL.out] at hM
      exact HF.out _ hM
  
    · conv => arg 2; whnf
      go_upto_region 23 with         (first
          | go_skip
          | (go_at_call 42; refine (HS.out _ (pl_hand (to_front [sR bs ⟨g0, fx, mx, rx, ex, true⟩, atR gx 40 cs, mapR Try.prog 3 fInt fSP gm m] _ _ hM))).mono ?_; rintro x W ⟨rfl, hM6⟩; replace hM := to_front _ [sR bs ⟨g0, fx, mx, rx, ex, true⟩, atR gx 40 cs, mapR Try.prog 3 fInt fSP gm m] _ (pl_put (to_front [sR bs ⟨g0, fx, mx, rx, ex, true⟩, atR gx 40 cs, mapR Try.prog 3 fInt fSP gm m] _ _ hM) hM6); clear hM6; dsimp only)
          | ((with_reducible refine at_box_ ?_); refine wpList_box_mem rfl _ _ rfl _ rfl hM ?_; clear hM; intro gb W hM; first | (simp only [List.nil_append] at hM) | (simp only [List.cons_append, List.nil_append] at hM))
          | ((with_reducible refine at_load_ ?_); refine at_wanted_ (by rfl) ?_; first | (refine wpList_loadf_mem (by go_simp) _ _ rfl (by kernel_rfl) 0 _ _ _ _ _ hM rfl rfl (by first | rfl | assumption) ?_) | (refine wpList_loadf_mem (by go_simp) _ _ rfl (by kernel_rfl) 1 _ _ _ _ _ hM rfl rfl (by first | rfl | assumption) ?_))
          | ((with_reducible refine at_store_ ?_); first | (refine wpList_store1_mem rfl _ _ _ rfl 0 _ _ _ _ _ hM rfl rfl (by first | ((conv => lhs; whnf); done) | ((conv => lhs; whnf); rfl)) (by rfl) (by rfl) (by kernel_rfl) rfl ?_; clear hM; intro W hM; simp only [List.set_cons_succ, List.set_cons_zero] at hM) | (refine wpList_store1_mem rfl _ _ _ rfl 1 _ _ _ _ _ hM rfl rfl (by first | ((conv => lhs; whnf); done) | ((conv => lhs; whnf); rfl)) (by rfl) (by rfl) (by kernel_rfl) rfl ?_; clear hM; intro W hM; simp only [List.set_cons_succ, List.set_cons_zero] at hM)))
      generalize hPL : pollL g v (ws.set k0 (noteW ⟨g0, fx, mx, rx, ex, true⟩ xb)) ++ zs'.map (sR bs) = PL at hM
      have HPL := Lib.hid hPL
      clear hPL
      replace hM : Mem w W (atR (bs fx) 84 [.int .i64 mx, .int .i64 rx, .bool ex, .bool true] :: atR gx 40 cs :: mapR Try.prog 3 fInt fSP gm m :: PL) := hM
      have HW1 := Lib.hid (fun W (h : (atR gx 40 cs).P W) => ((show At W _ _ _ from h).cell 2).trans hxb)
      refine wp_region_M [0,1] [18] hM (by kernel_rfl) ?_
      clear hM
      intro wo hM
      refine wpI_takeP (i := 0) (v := ?_) rfl (by kernel_rfl) (by kernel_rfl) (by kernel_rfl) (by first | exact fun _ _ _ h => h | exact fun _ _ _ h => HQ0.out _ _ _ _ _ h) (Or.inl ⟨by rfl, ?hy⟩) ?_
      case hy => (intro W; go_simp; (try with_reducible rfl))
      simp only [Act.put, List.getElem_toArray, List.getElem_cons_succ, List.getElem_cons_zero, List.setIfInBounds_toArray, List.set_cons_zero, List.set_cons_succ]
      refine wpI_takeP (i := 1) (v := ?_) rfl (by kernel_rfl) (by kernel_rfl) (by kernel_rfl) (by first | exact fun _ _ _ h => h | exact fun _ _ _ h => HQ0.out _ _ _ _ _ h) (Or.inl ⟨by rfl, ?hy⟩) ?_
      case hy => (intro W; go_simp; (try with_reducible rfl))
      simp only [Act.put, List.getElem_toArray, List.getElem_cons_succ, List.getElem_cons_zero, List.setIfInBounds_toArray, List.set_cons_zero, List.set_cons_succ]
      refine wpI_takeP (i := 2) (v := ?_) rfl (by kernel_rfl) (by kernel_rfl) (by kernel_rfl) (by first | exact fun _ _ _ h => h | exact fun _ _ _ h => HQ0.out _ _ _ _ _ h) (Or.inl ⟨by rfl, ?hy⟩) ?_
      case hy => (intro W; go_simp; (try with_reducible rfl))
      simp only [Act.put, List.getElem_toArray, List.getElem_cons_succ, List.getElem_cons_zero, List.setIfInBounds_toArray, List.set_cons_zero, List.set_cons_succ]
      refine wpI_takeP (i := 3) (v := ?_) rfl (by kernel_rfl) (by kernel_rfl) (by kernel_rfl) (by first | exact fun _ _ _ h => h | exact fun _ _ _ h => HQ0.out _ _ _ _ _ h) (Or.inl ⟨by rfl, ?hy⟩) ?_
      case hy => (intro W; go_simp; (try with_reducible rfl))
      simp only [Act.put, List.getElem_toArray, List.getElem_cons_succ, List.getElem_cons_zero, List.setIfInBounds_toArray, List.set_cons_zero, List.set_cons_succ]
      refine wpI_takeT (i := 4) (v := ?_) rfl (by kernel_rfl) (by kernel_rfl) (by kernel_rfl) (by kernel_rfl) (by first | exact fun _ _ _ h => h | exact fun _ _ _ h => HQ0.out _ _ _ _ _ h) ⟨fun r hr => hM.get 0 hr, fun r hr => hM.get 1 hr, trivial⟩ (Or.inl ⟨by rfl, ?hy⟩) ?_
      case hy => (rintro W ⟨i0, i1, -⟩; have c0 := (show At W _ _ _ from i0 _ rfl).cell; have c1 := HW1.out W (i1 _ rfl); go_simp; (try with_reducible rfl))
      simp only [Act.put, List.getElem_toArray, List.getElem_cons_succ, List.getElem_cons_zero, List.setIfInBounds_toArray, List.set_cons_zero, List.set_cons_succ]
      refine wpI_takeP (i := 5) (v := ?_) rfl (by kernel_rfl) (by kernel_rfl) (by kernel_rfl) (by first | exact fun _ _ _ h => h | exact fun _ _ _ h => HQ0.out _ _ _ _ _ h) (Or.inl ⟨by rfl, ?hy⟩) ?_
      case hy => (intro W; go_simp; (try with_reducible rfl))
      simp only [Act.put, List.getElem_toArray, List.getElem_cons_succ, List.getElem_cons_zero, List.setIfInBounds_toArray, List.set_cons_zero, List.set_cons_succ]
      first
      | (refine wpI_takeP (i := 6) (v := ?_) rfl (by kernel_rfl) (by kernel_rfl) (by kernel_rfl) (by first | exact fun _ _ _ h => h | exact fun _ _ _ h => HQ0.out _ _ _ _ _ h) (Or.inl ⟨by rfl, ?hy⟩) ?_; (case hy => (intro W; go_simp; (try with_reducible rfl))))
      | (refine wpI_takeP (i := 6) (v := undef) rfl (by kernel_rfl) (by kernel_rfl) (by kernel_rfl) (by first | exact fun _ _ _ h => h | exact fun _ _ _ h => HQ0.out _ _ _ _ _ h) (Or.inr ⟨by rfl, rfl⟩) ?_)
      simp only [Act.put, List.getElem_toArray, List.getElem_cons_succ, List.getElem_cons_zero, List.setIfInBounds_toArray, List.set_cons_zero, List.set_cons_succ]
      first
      | (refine wpI_takeT (i := 7) (v := ?_) rfl (by kernel_rfl) (by kernel_rfl) (by kernel_rfl) (by kernel_rfl) (by first | exact fun _ _ _ h => h | exact fun _ _ _ h => HQ0.out _ _ _ _ _ h) ⟨fun r hr => hM.get 0 hr, fun r hr => hM.get 1 hr, trivial⟩ (Or.inl ⟨by rfl, ?hy⟩) ?_; (case hy => (rintro W ⟨i0, i1, -⟩; have c0 := (show At W _ _ _ from i0 _ rfl).cell; have c1 := HW1.out W (i1 _ rfl); go_simp; (try with_reducible rfl))))
      | (refine wpI_takeT (i := 7) (v := undef) rfl (by kernel_rfl) (by kernel_rfl) (by kernel_rfl) (by kernel_rfl) (by first | exact fun _ _ _ h => h | exact fun _ _ _ h => HQ0.out _ _ _ _ _ h) ⟨fun r hr => hM.get 0 hr, fun r hr => hM.get 1 hr, trivial⟩ (Or.inr ⟨by rfl, rfl⟩) ?_)
      simp only [Act.put, List.getElem_toArray, List.getElem_cons_succ, List.getElem_cons_zero, List.setIfInBounds_toArray, List.set_cons_zero, List.set_cons_succ]
      refine wpI_takeP (i := 8) rfl (by kernel_rfl) (by kernel_rfl) (by kernel_rfl) (by first | exact fun _ _ _ h => h | exact fun _ _ _ h => HQ0.out _ _ _ _ _ h) ((Or.inr ⟨by rfl, rfl⟩)) ?_
      simp only [Act.put, List.getElem_toArray, List.getElem_cons_succ, List.getElem_cons_zero, List.setIfInBounds_toArray, List.set_cons_zero, List.set_cons_succ]
      (try simp only [Bool.not_true, Bool.not_false])
      first
      | (refine wpI_takeP (i := 9) (v := ?_) rfl (by kernel_rfl) (by kernel_rfl) (by kernel_rfl) (by first | exact fun _ _ _ h => h | exact fun _ _ _ h => HQ0.out _ _ _ _ _ h) (Or.inl ⟨by rfl, ?hy⟩) ?_; (case hy => (intro W; go_simp; (try with_reducible rfl))))
      | (refine wpI_takeP (i := 9) (v := undef) rfl (by kernel_rfl) (by kernel_rfl) (by kernel_rfl) (by first | exact fun _ _ _ h => h | exact fun _ _ _ h => HQ0.out _ _ _ _ _ h) (Or.inr ⟨by rfl, rfl⟩) ?_)
      simp only [Act.put, List.getElem_toArray, List.getElem_cons_succ, List.getElem_cons_zero, List.setIfInBounds_toArray, List.set_cons_zero, List.set_cons_succ]
      first
      | (refine wpI_takeP (i := 10) (v := ?_) rfl (by kernel_rfl) (by kernel_rfl) (by kernel_rfl) (by first | exact fun _ _ _ h => h | exact fun _ _ _ h => HQ0.out _ _ _ _ _ h) (Or.inl ⟨by rfl, ?hy⟩) ?_; (case hy => (intro W; go_simp; (try with_reducible rfl))))
      | (refine wpI_takeP (i := 10) (v := undef) rfl (by kernel_rfl) (by kernel_rfl) (by kernel_rfl) (by first | exact fun _ _ _ h => h | exact fun _ _ _ h => HQ0.out _ _ _ _ _ h) (Or.inr ⟨by rfl, rfl⟩) ?_)
      simp only [Act.put, List.getElem_toArray, List.getElem_cons_succ, List.getElem_cons_zero, List.setIfInBounds_toArray, List.set_cons_zero, List.set_cons_succ]
      first
      | (refine wpI_takeP (i := 11) (v := ?_) rfl (by kernel_rfl) (by kernel_rfl) (by kernel_rfl) (by first | exact fun _ _ _ h => h | exact fun _ _ _ h => HQ0.out _ _ _ _ _ h) (Or.inl ⟨by rfl, ?hy⟩) ?_; (case hy => (intro W; go_simp; (try with_reducible rfl))))
      | (refine wpI_takeP (i := 11) (v := undef) rfl (by kernel_rfl) (by kernel_rfl) (by kernel_rfl) (by first | exact fun _ _ _ h => h | exact fun _ _ _ h => HQ0.out _ _ _ _ _ h) (Or.inr ⟨by rfl, rfl⟩) ?_)
      simp only [Act.put, List.getElem_toArray, List.getElem_cons_succ, List.getElem_cons_zero, List.setIfInBounds_toArray, List.set_cons_zero, List.set_cons_succ]
      first
      | (refine wpI_takeT (i := 12) (v := ?_) rfl (by kernel_rfl) (by kernel_rfl) (by kernel_rfl) (by kernel_rfl) (by first | exact fun _ _ _ h => h | exact fun _ _ _ h => HQ0.out _ _ _ _ _ h) ⟨fun r hr => hM.get 0 hr, fun r hr => hM.get 1 hr, trivial⟩ (Or.inl ⟨by rfl, ?hy⟩) ?_; (case hy => (rintro W ⟨i0, i1, -⟩; have c0 := (show At W _ _ _ from i0 _ rfl).cell; have c1 := HW1.out W (i1 _ rfl); go_simp; (try with_reducible rfl))))
      | (refine wpI_takeT (i := 12) (v := undef) rfl (by kernel_rfl) (by kernel_rfl) (by kernel_rfl) (by kernel_rfl) (by first | exact fun _ _ _ h => h | exact fun _ _ _ h => HQ0.out _ _ _ _ _ h) ⟨fun r hr => hM.get 0 hr, fun r hr => hM.get 1 hr, trivial⟩ (Or.inr ⟨by rfl, rfl⟩) ?_)
      simp only [Act.put, List.getElem_toArray, List.getElem_cons_succ, List.getElem_cons_zero, List.setIfInBounds_toArray, List.set_cons_zero, List.set_cons_succ]
      refine wpI_takeP (i := 13) rfl (by kernel_rfl) (by kernel_rfl) (by kernel_rfl) (by first | exact fun _ _ _ h => h | exact fun _ _ _ h => HQ0.out _ _ _ _ _ h) ((Or.inr ⟨by rfl, rfl⟩)) ?_
      simp only [Act.put, List.getElem_toArray, List.getElem_cons_succ, List.getElem_cons_zero, List.setIfInBounds_toArray, List.set_cons_zero, List.set_cons_succ]
      (try simp only [Bool.not_true, Bool.not_false])
      first
      | (refine wpI_takeP (i := 14) (v := ?_) rfl (by kernel_rfl) (by kernel_rfl) (by kernel_rfl) (by first | exact fun _ _ _ h => h | exact fun _ _ _ h => HQ0.out _ _ _ _ _ h) (Or.inl ⟨by rfl, ?hy⟩) ?_; (case hy => (intro W; go_simp; (try with_reducible rfl))))
      | (refine wpI_takeP (i := 14) (v := undef) rfl (by kernel_rfl) (by kernel_rfl) (by kernel_rfl) (by first | exact fun _ _ _ h => h | exact fun _ _ _ h => HQ0.out _ _ _ _ _ h) (Or.inr ⟨by rfl, rfl⟩) ?_)
      simp only [Act.put, List.getElem_toArray, List.getElem_cons_succ, List.getElem_cons_zero, List.setIfInBounds_toArray, List.set_cons_zero, List.set_cons_succ]
      refine wpI_takeP (i := 15) (v := ?_) rfl (by kernel_rfl) (by kernel_rfl) (by kernel_rfl) (by first | exact fun _ _ _ h => h | exact fun _ _ _ h => HQ0.out _ _ _ _ _ h) (Or.inl ⟨by rfl, ?hy⟩) ?_
      case hy => (intro W; go_simp; (try with_reducible rfl))
      simp only [Act.put, List.getElem_toArray, List.getElem_cons_succ, List.getElem_cons_zero, List.setIfInBounds_toArray, List.set_cons_zero, List.set_cons_succ]
      refine wpI_takeP (i := 16) (v := ?_) rfl (by kernel_rfl) (by kernel_rfl) (by kernel_rfl) (by first | exact fun _ _ _ h => h | exact fun _ _ _ h => HQ0.out _ _ _ _ _ h) (Or.inl ⟨by rfl, ?hy⟩) ?_
      case hy => (intro W; go_simp; (try with_reducible rfl))
      simp only [Act.put, List.getElem_toArray, List.getElem_cons_succ, List.getElem_cons_zero, List.setIfInBounds_toArray, List.set_cons_zero, List.set_cons_succ]
      refine wpI_takeP (i := 17) (v := ?_) rfl (by kernel_rfl) (by kernel_rfl) (by kernel_rfl) (by first | exact fun _ _ _ h => h | exact fun _ _ _ h => HQ0.out _ _ _ _ _ h) (Or.inl ⟨by rfl, ?hy⟩) ?_
      case hy => (intro W; go_simp; (try with_reducible rfl))
      simp only [Act.put, List.getElem_toArray, List.getElem_cons_succ, List.getElem_cons_zero, List.setIfInBounds_toArray, List.set_cons_zero, List.set_cons_succ]
      refine wpI_one (i := 18) rfl (by kernel_rfl) ?_
      (try simp only [Act.put, List.getElem_toArray, List.getElem_cons_succ, List.getElem_cons_zero, List.setIfInBounds_toArray, List.set_cons_zero, List.set_cons_succ])
      go_wp2_with (first
          | go_skip
          | ((with_reducible refine at_box_ ?_); refine wpList_box_mem rfl _ _ rfl _ rfl hM ?_; clear hM; intro gb W hM; first | (simp only [List.nil_append] at hM) | (simp only [List.cons_append, List.nil_append] at hM))
          | ((with_reducible refine at_load_ ?_); refine at_wanted_ (by rfl) ?_; refine wpList_loadf_mem (by go_simp) _ _ rfl (by kernel_rfl) 0 _ _ _ _ _ hM rfl rfl (by first | rfl | assumption) ?_)
          | ((with_reducible refine at_store_ ?_); refine wpList_store1_mem rfl _ _ _ rfl 0 _ _ _ _ _ hM rfl rfl (by first | ((conv => lhs; whnf); done) | ((conv => lhs; whnf); rfl)) (by rfl) (by rfl) (by kernel_rfl) rfl ?_; clear hM; intro W hM; simp only [List.set_cons_succ, List.set_cons_zero] at hM))
      refine contI_late (by decide) ?_
      (try simp only [Act.put, List.getElem_toArray, List.getElem_cons_succ, List.getElem_cons_zero, List.setIfInBounds_toArray, List.set_cons_zero, List.set_cons_succ])
      refine wpI_done (by kernel_rfl) ?_ _
      (try simp only [Act.put, List.getElem_toArray, List.getElem_cons_succ, List.getElem_cons_zero, List.setIfInBounds_toArray, List.set_cons_zero, List.set_cons_succ])
      go_wp2_with         (first
          | go_skip
          | ((with_reducible refine at_and_ ?_); refine wpList_valI (by rfl) (exec_and _ _ _ _ rfl _ _ rfl rfl _) ?_)
          | ((with_reducible refine at_or_ ?_); refine wpList_valI (by rfl) (exec_or _ _ _ _ rfl _ _ rfl rfl _) ?_)
          | ((with_reducible refine at_andNot_ ?_); refine wpList_valI (by rfl) (exec_andNot _ _ _ _ rfl _ _ rfl rfl _) ?_)
          | ((with_reducible refine at_box_ ?_); refine wpList_box_mem rfl _ _ rfl _ rfl hM ?_; clear hM; intro gb W hM; first | (simp only [List.nil_append] at hM) | (simp only [List.cons_append, List.nil_append] at hM))
          | ((with_reducible refine at_load_ ?_); refine at_wanted_ (by rfl) ?_; first | (refine wpList_loadf_mem (by go_simp) _ _ rfl (by kernel_rfl) 0 _ _ _ _ _ hM rfl rfl (by first | rfl | assumption) ?_) | (refine wpList_loadf_mem (by go_simp) _ _ rfl (by kernel_rfl) 1 _ _ _ _ _ hM rfl rfl (by first | rfl | assumption) ?_))
          | ((with_reducible refine at_store_ ?_); first | (refine wpList_store1_mem rfl _ _ _ rfl 0 _ _ _ _ _ hM rfl rfl (by first | ((conv => lhs; whnf); done) | ((conv => lhs; whnf); rfl)) (by rfl) (by rfl) (by kernel_rfl) rfl ?_; clear hM; intro W hM; simp only [List.set_cons_succ, List.set_cons_zero] at hM) | (refine wpList_store1_mem rfl _ _ _ rfl 1 _ _ _ _ _ hM rfl rfl (by first | ((conv => lhs; whnf); done) | ((conv => lhs; whnf); rfl)) (by rfl) (by rfl) (by kernel_rfl) rfl ?_; clear hM; intro W hM; simp only [List.set_cons_succ, List.set_cons_zero] at hM)))
      rw [← HPL.out] at hM
      exact HF.out _ hM
  
end
end Go.Proofs.Ytgdfjkdcdfmifaa
