/- What UConnStream needs, a part: CnDc. -/
import Derived.Deep.CutBlock
import Derived.Test.YtfpifahkpkjfgaaMZ
import Derived.Test.YtfpifahkpkjfgaaMUConnStream12
import Derived.Test.YtfpifahkpkjfgaaMUConnStream43
/- conn: does: Close, Tick, reads. Written by my gencn.py. -/
namespace Go.Proofs.Ytfpifahkpkjfgaa
open Go.RowKit Go.Lib
set_option linter.unusedVariables false
set_option linter.unusedSimpArgs false
set_option linter.unusedSectionVars false
set_option maxRecDepth 100000
section
variable {u0 u1 u4 u9 u10 u11 u12 u13 u14 u15 u16 u17 u18 u19 u20 u21 u22 u23 u24 u25 u26 u27 u28 u29 u30 u31 u32 u33 u34 u35 u36 u37 u38 u39 u40 u41 u42 u43 u44 u45 u46 u47 u48 u49 u50 u51 u52 u53 u54 u55 u56 u57 u58 u59 u60 u61 u62 u63 u64 u65 u66 u67 u68 u69 u70 u71 u72 u73 u74 u75 u76 u77 u78 u79 u80 u81 u82 u83 u84 u85 u86 u87 u88 u89 u90 u91 u92 u93 u94 u95 u96 u97 u98 u99 u100 u101 u102 u103 u104 u105 u106 u107 u108 u109 u110 u111 u112 u113 u114 u115 u116 u117 u118 u119 u120 u121 u122 u123 u124 u125 u126 u127 u128 u129 u130 u131 u132 u133 u134 u135 u136 u137 u138 u139 u140 u141 u142 u143 u144 u145 u146 u147 u148 u149 u150 u151 u152 u153 u154 u155 u156 u157 u158 u159 u160 u161 u162 u163 u164 u165 u166 u167 u168 u169 u170 u171 u172 u173 u174 u175 u176 u177 u178 u179 u180 u181 u182 u183 u184 u185 u186 u187 u188 u189 u190 u191 u192 : Value} {E : Nat → Prop} {w0 w4 : World} (gx gk gs gp ga gb : Nat) (kk : Int) (va : Value) (gia gwa : Nat) (ka : KPt) (gib gwb : Nat) (kb : KPt) (cs : List Value) (a b : KCn) (p : KPa) (m : List Res) {iss irs t : Int} {N : Nat} (ii kd xb : Int) (s : ByteArray) (K : Act → World → Prop) (Q0 : Exit → Act → World → Prop)
 (hM : MemX E w0 w4 (atR gx 40 [.pointer (some ⟨gp, 0, none⟩)] :: atR gk 3 [.int .i64 kk] :: prR gp ga gb va p :: arR va p.air :: atR gs 70 cs :: (cnH ga gia gwa a ka ++ (cnH gb gib gwb b kb ++ m)))) (HP : Hid (PI iss irs N t ⟨a, b, p⟩)) (HOK : Hid (KOk ka gia gwa a.h ∧ KOk kb gib gwb b.h)) (HB : Hid (cs[2]? = some (.int .i64 xb) ∧ -9223372036854775808 ≤ xb ∧ xb ≤ 9223372036854775807)) (HS4 : Hid (cs[4]? = some (.string s))) (HT : Hid (t ≤ 100000000 ∧ N + s.size ≤ 1048576))
 (HQ0 : Hid (∀ c d v a w, Q0 (.panic c) (Act.put a d v) w → Q0 (.panic c) a w))
 (hK : ∀ (v4 v9 v10 v11 v12 v13 v34 v35 v36 v37 v38 v39 v40 v41 v42 v43 v44 v45 v46 v47 v48 v49 v50 v51 v52 v53 v54 v55 v56 v57 v58 v59 v60 v61 v62 v63 v64 v65 v66 v67 v68 v69 v70 v71 v72 v73 v74 v75 v76 v77 v78 v79 v80 v81 v82 v83 v84 v85 v86 v87 v88 v89 v90 v91 v92 v93 v94 v95 v96 v97 v98 v99 v100 v101 v102 v103 v104 v105 v106 v107 v108 v109 v110 v111 v112 v113 v114 v115 v116 v117 v118 v119 v120 v121 v122 v123 v124 v125 v126 v127 v128 v129 v130 v131 v132 v133 v134 v135 v136 v137 v138 v139 v140 v141 v142 v143 v144 v145 v146 v147 v148 v149 v150 v151 v152 v153 v154 v155 v156 v157 v158 v159 v160 v161 v162 v163 v164 v165 v166 v167 v168 v169 v170 v171 v172 v173 v174 v175 v176 v177 v178 v179 v180 v181 v182 v183 v184 v185 v186 v187 v188 v189 v190 : Value) (W : World), doRel E w0 gx gk gs gp ga gb cs m iss irs (N + s.size) (t + 1) W → K ⟨(u0 :: u1 :: .pointer (some ⟨gx, 0, none⟩) :: .pointer (some ⟨gs, 0, none⟩) :: v4 :: .pointer (some ⟨gk, 0, none⟩) :: .int .i64 ii :: .func (.func 58) #[] #[.pointer (some ⟨gx, 0, none⟩), .pointer (some ⟨gk, 0, none⟩)] :: .int .i64 kd :: v9 :: v10 :: v11 :: v12 :: v13 :: u14 :: u15 :: u16 :: u17 :: u18 :: u19 :: u20 :: u21 :: u22 :: u23 :: u24 :: u25 :: u26 :: u27 :: u28 :: u29 :: u30 :: u31 :: u32 :: u33 :: v34 :: v35 :: v36 :: v37 :: v38 :: v39 :: v40 :: v41 :: v42 :: v43 :: v44 :: v45 :: v46 :: v47 :: v48 :: v49 :: v50 :: v51 :: v52 :: v53 :: v54 :: v55 :: v56 :: v57 :: v58 :: v59 :: v60 :: v61 :: v62 :: v63 :: v64 :: v65 :: v66 :: v67 :: v68 :: v69 :: v70 :: v71 :: v72 :: v73 :: v74 :: v75 :: v76 :: v77 :: v78 :: v79 :: v80 :: v81 :: v82 :: v83 :: v84 :: v85 :: v86 :: v87 :: v88 :: v89 :: v90 :: v91 :: v92 :: v93 :: v94 :: v95 :: v96 :: v97 :: v98 :: v99 :: v100 :: v101 :: v102 :: v103 :: v104 :: v105 :: v106 :: v107 :: v108 :: v109 :: v110 :: v111 :: v112 :: v113 :: v114 :: v115 :: v116 :: v117 :: v118 :: v119 :: v120 :: v121 :: v122 :: v123 :: v124 :: v125 :: v126 :: v127 :: v128 :: v129 :: v130 :: v131 :: v132 :: v133 :: v134 :: v135 :: v136 :: v137 :: v138 :: v139 :: v140 :: v141 :: v142 :: v143 :: v144 :: v145 :: v146 :: v147 :: v148 :: v149 :: v150 :: v151 :: v152 :: v153 :: v154 :: v155 :: v156 :: v157 :: v158 :: v159 :: v160 :: v161 :: v162 :: v163 :: v164 :: v165 :: v166 :: v167 :: v168 :: v169 :: v170 :: v171 :: v172 :: v173 :: v174 :: v175 :: v176 :: v177 :: v178 :: v179 :: v180 :: v181 :: v182 :: v183 :: v184 :: v185 :: v186 :: v187 :: v188 :: v189 :: v190 :: u191 :: u192 :: []).toArray, []⟩ W)
include hM HP HOK HB HS4 HT HQ0 hK
set_option maxRecDepth 100000 in
set_option maxHeartbeats 8000000 in
theorem do_close0 (h : kd = 2) (hi : ii = 0) : Code.wp Try.prog doSwitch (Exit.then K Q0) ⟨(u0 :: u1 :: .pointer (some ⟨gx, 0, none⟩) :: .pointer (some ⟨gs, 0, none⟩) :: u4 :: .pointer (some ⟨gk, 0, none⟩) :: .int .i64 ii :: .func (.func 58) #[] #[.pointer (some ⟨gx, 0, none⟩), .pointer (some ⟨gk, 0, none⟩)] :: .int .i64 kd :: u9 :: u10 :: u11 :: u12 :: u13 :: u14 :: u15 :: u16 :: u17 :: u18 :: u19 :: u20 :: u21 :: u22 :: u23 :: u24 :: u25 :: u26 :: u27 :: u28 :: u29 :: u30 :: u31 :: u32 :: u33 :: u34 :: u35 :: u36 :: u37 :: u38 :: u39 :: u40 :: u41 :: u42 :: u43 :: u44 :: u45 :: u46 :: u47 :: u48 :: u49 :: u50 :: u51 :: u52 :: u53 :: u54 :: u55 :: u56 :: u57 :: u58 :: u59 :: u60 :: u61 :: u62 :: u63 :: u64 :: u65 :: u66 :: u67 :: u68 :: u69 :: u70 :: u71 :: u72 :: u73 :: u74 :: u75 :: u76 :: u77 :: u78 :: u79 :: u80 :: u81 :: u82 :: u83 :: u84 :: u85 :: u86 :: u87 :: u88 :: u89 :: u90 :: u91 :: u92 :: u93 :: u94 :: u95 :: u96 :: u97 :: u98 :: u99 :: u100 :: u101 :: u102 :: u103 :: u104 :: u105 :: u106 :: u107 :: u108 :: u109 :: u110 :: u111 :: u112 :: u113 :: u114 :: u115 :: u116 :: u117 :: u118 :: u119 :: u120 :: u121 :: u122 :: u123 :: u124 :: u125 :: u126 :: u127 :: u128 :: u129 :: u130 :: u131 :: u132 :: u133 :: u134 :: u135 :: u136 :: u137 :: u138 :: u139 :: u140 :: u141 :: u142 :: u143 :: u144 :: u145 :: u146 :: u147 :: u148 :: u149 :: u150 :: u151 :: u152 :: u153 :: u154 :: u155 :: u156 :: u157 :: u158 :: u159 :: u160 :: u161 :: u162 :: u163 :: u164 :: u165 :: u166 :: u167 :: u168 :: u169 :: u170 :: u171 :: u172 :: u173 :: u174 :: u175 :: u176 :: u177 :: u178 :: u179 :: u180 :: u181 :: u182 :: u183 :: u184 :: u185 :: u186 :: u187 :: u188 :: u189 :: u190 :: u191 :: u192 :: []).toArray, []⟩ w4 := by
 subst hi
 have hP := HP.out
 have h5 := hP.close0.time (show t ≤ t + 1 by omega)
 have h7 := hP.ca
 have hok := HOK.out
 have ht := HT.out
 dsimp only at h5 h7
 clear hP
 have HRL := Lib.hid (fun (W : World) (kk' : Int) (va' : Value) (gia' gwa' : Nat) (ka' : KPt) (gib' gwb' : Nat) (kb' : KPt) (y : KPr) (N' : Nat) (h : MemX E w0 W (doM gx gk gs gp ga gb kk' va' gia' gwa' ka' gib' gwb' kb' cs y m)) (h1 : KPl.ok ⟨gp, ga, gia', gwa', ka', gb, gib', gwb', kb', va'⟩ y) (h2 : PI iss irs N' (t + 1) y) (h3 : N' ≤ N + s.size) => (⟨kk', va', gia', gwa', ka', gib', gwb', kb', y, N', h, h1, h2, h3⟩ : doRel E w0 gx gk gs gp ga gb cs m iss irs (N + s.size) (t + 1) W))
 have HCL := Lib.hid (fun (W : World) (h : MemX E w0 W (atR gx 40 [.pointer (some ⟨gp, 0, none⟩)] :: atR gk 3 [.int .i64 kk] :: prR gp ga gb va p :: arR va p.air :: atR gs 70 cs :: (cnH ga gia gwa a ka ++ (cnH gb gib gwb b kb ++ m)))) => closeF [atR gx 40 [.pointer (some ⟨gp, 0, none⟩)], atR gk 3 [.int .i64 kk], prR gp ga gb va p, arR va p.air, atR gs 70 cs] (cnH gb gib gwb b kb ++ m) h hok.1 h7 (by omega))
 obtain ⟨er, her⟩ : ∃ z, z = (cClose a).2 := ⟨_, rfl⟩
 obtain ⟨c1, hc1⟩ : ∃ z, z = (cClose a).1 := ⟨_, rfl⟩
 rw [← her, ← hc1] at h5
 rw [← her, ← hc1] at HCL
 have H5 := Lib.hid h5
 have HKO := Lib.hid hok
 clear her hc1 h5 h7 hok ht
 have tk : decide (kd < 2) = false := decide_eq_false (by omega)
 have tk2 : (kd == 2) = true := by rw [h]; rfl
 clear h
 conv => arg 2; whnf
 go_upto_if 120 with (first | go_skip | ((with_reducible refine at_load_ ?_); refine at_wanted_ (by rfl) ?_; first | (refine lM 0 hM rfl rfl rfl rfl ?_) | (refine lM 2 hM rfl rfl rfl rfl ?_)) | (go_at_call 29; refine (HCL.out _ hM).mono ?_; clear hM; rintro e W ⟨k1, rfl, hM, hK1⟩; have HK1 := Lib.hid hK1; clear hK1; dsimp only))
 replace hM := (show MemX E w0 W (atR gx 40 [.pointer (some ⟨gp, 0, none⟩)] :: atR gk 3 [.int .i64 kk] :: prR gp ga gb va p :: arR va p.air :: atR gs 70 cs :: (cnH ga gia gwa c1 k1 ++ (cnH gb gib gwb b kb ++ m))) from hM)
 by_cases he : er = 0
 ·have te : (er == 0) = true := by rw [he]; rfl
  have HY := Lib.hid (show PI iss irs N (t + 1) (⟨c1, b, ({ p with s0 := true } : KPa)⟩ : KPr) from by have h := H5.out; rw [he, show (p.s0 || decide ((0 : Int) = 0)) = true from by simp] at h; exact h)
  clear he
  go_wp2_with (first | go_skip | ((with_reducible refine at_load_ ?_); refine at_wanted_ (by rfl) ?_; first | (refine lM 0 hM rfl rfl rfl rfl ?_)) | ((with_reducible refine at_store_ ?_); refine sM 2 hM rfl rfl rfl ?_; clear hM; intro W hM; simp only [zF, zE, prR, pr6, pr7, pr8, pr9, pr10, pr11, pr12, pr13, pr14, pr15, pr16, pr17, pr18, pr19] at hM))
  first | exact hK _ _ _ _ _ _ _ _ _ _ _ _ _ _ _ _ _ _ _ _ _ _ _ _ _ _ _ _ _ _ _ _ _ _ _ _ _ _ _ _ _ _ _ _ _ _ _ _ _ _ _ _ _ _ _ _ _ _ _ _ _ _ _ _ _ _ _ _ _ _ _ _ _ _ _ _ _ _ _ _ _ _ _ _ _ _ _ _ _ _ _ _ _ _ _ _ _ _ _ _ _ _ _ _ _ _ _ _ _ _ _ _ _ _ _ _ _ _ _ _ _ _ _ _ _ _ _ _ _ _ _ _ _ _ _ _ _ _ _ _ _ _ _ _ _ _ _ _ _ _ _ _ _ _ _ _ _ _ _ _ _ _ _ _ (HRL.out _ _ _ _ _ _ _ _ _ (⟨c1, b, ({ p with s0 := true } : KPa)⟩ : KPr) _ hM ⟨HK1.out, HKO.out.2⟩ HY.out (Nat.le_add_right _ _)) | exact (HRL.out _ _ _ _ _ _ _ _ _ (⟨c1, b, ({ p with s0 := true } : KPa)⟩ : KPr) _ hM ⟨HK1.out, HKO.out.2⟩ HY.out (Nat.le_add_right _ _))
 ·have te : (er == 0) = false := by simpa using he
  have HY := Lib.hid (show PI iss irs N (t + 1) (⟨c1, b, p⟩ : KPr) from by have h := H5.out; rw [decide_eq_false he, Bool.or_false] at h; exact h)
  clear he
  (go_wp2_with fail)
  first | exact hK _ _ _ _ _ _ _ _ _ _ _ _ _ _ _ _ _ _ _ _ _ _ _ _ _ _ _ _ _ _ _ _ _ _ _ _ _ _ _ _ _ _ _ _ _ _ _ _ _ _ _ _ _ _ _ _ _ _ _ _ _ _ _ _ _ _ _ _ _ _ _ _ _ _ _ _ _ _ _ _ _ _ _ _ _ _ _ _ _ _ _ _ _ _ _ _ _ _ _ _ _ _ _ _ _ _ _ _ _ _ _ _ _ _ _ _ _ _ _ _ _ _ _ _ _ _ _ _ _ _ _ _ _ _ _ _ _ _ _ _ _ _ _ _ _ _ _ _ _ _ _ _ _ _ _ _ _ _ _ _ _ _ _ _ (HRL.out _ _ _ _ _ _ _ _ _ (⟨c1, b, p⟩ : KPr) _ hM ⟨HK1.out, HKO.out.2⟩ HY.out (Nat.le_add_right _ _)) | exact (HRL.out _ _ _ _ _ _ _ _ _ (⟨c1, b, p⟩ : KPr) _ hM ⟨HK1.out, HKO.out.2⟩ HY.out (Nat.le_add_right _ _))
set_option maxRecDepth 100000 in
set_option maxHeartbeats 8000000 in
theorem do_close1 (h : kd = 2) (hi : ii = 1) : Code.wp Try.prog doSwitch (Exit.then K Q0) ⟨(u0 :: u1 :: .pointer (some ⟨gx, 0, none⟩) :: .pointer (some ⟨gs, 0, none⟩) :: u4 :: .pointer (some ⟨gk, 0, none⟩) :: .int .i64 ii :: .func (.func 58) #[] #[.pointer (some ⟨gx, 0, none⟩), .pointer (some ⟨gk, 0, none⟩)] :: .int .i64 kd :: u9 :: u10 :: u11 :: u12 :: u13 :: u14 :: u15 :: u16 :: u17 :: u18 :: u19 :: u20 :: u21 :: u22 :: u23 :: u24 :: u25 :: u26 :: u27 :: u28 :: u29 :: u30 :: u31 :: u32 :: u33 :: u34 :: u35 :: u36 :: u37 :: u38 :: u39 :: u40 :: u41 :: u42 :: u43 :: u44 :: u45 :: u46 :: u47 :: u48 :: u49 :: u50 :: u51 :: u52 :: u53 :: u54 :: u55 :: u56 :: u57 :: u58 :: u59 :: u60 :: u61 :: u62 :: u63 :: u64 :: u65 :: u66 :: u67 :: u68 :: u69 :: u70 :: u71 :: u72 :: u73 :: u74 :: u75 :: u76 :: u77 :: u78 :: u79 :: u80 :: u81 :: u82 :: u83 :: u84 :: u85 :: u86 :: u87 :: u88 :: u89 :: u90 :: u91 :: u92 :: u93 :: u94 :: u95 :: u96 :: u97 :: u98 :: u99 :: u100 :: u101 :: u102 :: u103 :: u104 :: u105 :: u106 :: u107 :: u108 :: u109 :: u110 :: u111 :: u112 :: u113 :: u114 :: u115 :: u116 :: u117 :: u118 :: u119 :: u120 :: u121 :: u122 :: u123 :: u124 :: u125 :: u126 :: u127 :: u128 :: u129 :: u130 :: u131 :: u132 :: u133 :: u134 :: u135 :: u136 :: u137 :: u138 :: u139 :: u140 :: u141 :: u142 :: u143 :: u144 :: u145 :: u146 :: u147 :: u148 :: u149 :: u150 :: u151 :: u152 :: u153 :: u154 :: u155 :: u156 :: u157 :: u158 :: u159 :: u160 :: u161 :: u162 :: u163 :: u164 :: u165 :: u166 :: u167 :: u168 :: u169 :: u170 :: u171 :: u172 :: u173 :: u174 :: u175 :: u176 :: u177 :: u178 :: u179 :: u180 :: u181 :: u182 :: u183 :: u184 :: u185 :: u186 :: u187 :: u188 :: u189 :: u190 :: u191 :: u192 :: []).toArray, []⟩ w4 := by
 subst hi
 have hP := HP.out
 have h5 := hP.close1.time (show t ≤ t + 1 by omega)
 have h7 := hP.cb
 have hok := HOK.out
 have ht := HT.out
 dsimp only at h5 h7
 clear hP
 have HRL := Lib.hid (fun (W : World) (kk' : Int) (va' : Value) (gia' gwa' : Nat) (ka' : KPt) (gib' gwb' : Nat) (kb' : KPt) (y : KPr) (N' : Nat) (h : MemX E w0 W (doM gx gk gs gp ga gb kk' va' gia' gwa' ka' gib' gwb' kb' cs y m)) (h1 : KPl.ok ⟨gp, ga, gia', gwa', ka', gb, gib', gwb', kb', va'⟩ y) (h2 : PI iss irs N' (t + 1) y) (h3 : N' ≤ N + s.size) => (⟨kk', va', gia', gwa', ka', gib', gwb', kb', y, N', h, h1, h2, h3⟩ : doRel E w0 gx gk gs gp ga gb cs m iss irs (N + s.size) (t + 1) W))
 have HCL := Lib.hid (fun (W : World) (h : MemX E w0 W (atR gx 40 [.pointer (some ⟨gp, 0, none⟩)] :: atR gk 3 [.int .i64 kk] :: prR gp ga gb va p :: arR va p.air :: atR gs 70 cs :: (cnH ga gia gwa a ka ++ (cnH gb gib gwb b kb ++ m)))) => closeF (atR gx 40 [.pointer (some ⟨gp, 0, none⟩)] :: atR gk 3 [.int .i64 kk] :: prR gp ga gb va p :: arR va p.air :: atR gs 70 cs :: cnH ga gia gwa a ka) m h hok.2 h7 (by omega))
 obtain ⟨er, her⟩ : ∃ z, z = (cClose b).2 := ⟨_, rfl⟩
 obtain ⟨c1, hc1⟩ : ∃ z, z = (cClose b).1 := ⟨_, rfl⟩
 rw [← her, ← hc1] at h5
 rw [← her, ← hc1] at HCL
 have H5 := Lib.hid h5
 have HKO := Lib.hid hok
 clear her hc1 h5 h7 hok ht
 have tk : decide (kd < 2) = false := decide_eq_false (by omega)
 have tk2 : (kd == 2) = true := by rw [h]; rfl
 clear h
 conv => arg 2; whnf
 go_upto_if 120 with (first | go_skip | ((with_reducible refine at_load_ ?_); refine at_wanted_ (by rfl) ?_; first | (refine lM 0 hM rfl rfl rfl rfl ?_) | (refine lM 2 hM rfl rfl rfl rfl ?_)) | (go_at_call 29; refine (HCL.out _ hM).mono ?_; clear hM; rintro e W ⟨k1, rfl, hM, hK1⟩; have HK1 := Lib.hid hK1; clear hK1; dsimp only))
 replace hM := (show MemX E w0 W (atR gx 40 [.pointer (some ⟨gp, 0, none⟩)] :: atR gk 3 [.int .i64 kk] :: prR gp ga gb va p :: arR va p.air :: atR gs 70 cs :: (cnH ga gia gwa a ka ++ (cnH gb gib gwb c1 k1 ++ m))) from hM)
 by_cases he : er = 0
 ·have te : (er == 0) = true := by rw [he]; rfl
  have HY := Lib.hid (show PI iss irs N (t + 1) (⟨a, c1, ({ p with s1 := true } : KPa)⟩ : KPr) from by have h := H5.out; rw [he, show (p.s1 || decide ((0 : Int) = 0)) = true from by simp] at h; exact h)
  clear he
  go_wp2_with (first | go_skip | ((with_reducible refine at_load_ ?_); refine at_wanted_ (by rfl) ?_; first | (refine lM 0 hM rfl rfl rfl rfl ?_)) | ((with_reducible refine at_store_ ?_); refine sM 2 hM rfl rfl rfl ?_; clear hM; intro W hM; simp only [zF, zE, prR, pr6, pr7, pr8, pr9, pr10, pr11, pr12, pr13, pr14, pr15, pr16, pr17, pr18, pr19] at hM))
  first | exact hK _ _ _ _ _ _ _ _ _ _ _ _ _ _ _ _ _ _ _ _ _ _ _ _ _ _ _ _ _ _ _ _ _ _ _ _ _ _ _ _ _ _ _ _ _ _ _ _ _ _ _ _ _ _ _ _ _ _ _ _ _ _ _ _ _ _ _ _ _ _ _ _ _ _ _ _ _ _ _ _ _ _ _ _ _ _ _ _ _ _ _ _ _ _ _ _ _ _ _ _ _ _ _ _ _ _ _ _ _ _ _ _ _ _ _ _ _ _ _ _ _ _ _ _ _ _ _ _ _ _ _ _ _ _ _ _ _ _ _ _ _ _ _ _ _ _ _ _ _ _ _ _ _ _ _ _ _ _ _ _ _ _ _ _ (HRL.out _ _ _ _ _ _ _ _ _ (⟨a, c1, ({ p with s1 := true } : KPa)⟩ : KPr) _ hM ⟨HKO.out.1, HK1.out⟩ HY.out (Nat.le_add_right _ _)) | exact (HRL.out _ _ _ _ _ _ _ _ _ (⟨a, c1, ({ p with s1 := true } : KPa)⟩ : KPr) _ hM ⟨HKO.out.1, HK1.out⟩ HY.out (Nat.le_add_right _ _))
 ·have te : (er == 0) = false := by simpa using he
  have HY := Lib.hid (show PI iss irs N (t + 1) (⟨a, c1, p⟩ : KPr) from by have h := H5.out; rw [decide_eq_false he, Bool.or_false] at h; exact h)
  clear he
  (go_wp2_with fail)
  first | exact hK _ _ _ _ _ _ _ _ _ _ _ _ _ _ _ _ _ _ _ _ _ _ _ _ _ _ _ _ _ _ _ _ _ _ _ _ _ _ _ _ _ _ _ _ _ _ _ _ _ _ _ _ _ _ _ _ _ _ _ _ _ _ _ _ _ _ _ _ _ _ _ _ _ _ _ _ _ _ _ _ _ _ _ _ _ _ _ _ _ _ _ _ _ _ _ _ _ _ _ _ _ _ _ _ _ _ _ _ _ _ _ _ _ _ _ _ _ _ _ _ _ _ _ _ _ _ _ _ _ _ _ _ _ _ _ _ _ _ _ _ _ _ _ _ _ _ _ _ _ _ _ _ _ _ _ _ _ _ _ _ _ _ _ _ (HRL.out _ _ _ _ _ _ _ _ _ (⟨a, c1, p⟩ : KPr) _ hM ⟨HKO.out.1, HK1.out⟩ HY.out (Nat.le_add_right _ _)) | exact (HRL.out _ _ _ _ _ _ _ _ _ (⟨a, c1, p⟩ : KPr) _ hM ⟨HKO.out.1, HK1.out⟩ HY.out (Nat.le_add_right _ _))
set_option maxRecDepth 100000 in
set_option maxHeartbeats 8000000 in
theorem do_tick (h : kd = 3) : Code.wp Try.prog doSwitch (Exit.then K Q0) ⟨(u0 :: u1 :: .pointer (some ⟨gx, 0, none⟩) :: .pointer (some ⟨gs, 0, none⟩) :: u4 :: .pointer (some ⟨gk, 0, none⟩) :: .int .i64 ii :: .func (.func 58) #[] #[.pointer (some ⟨gx, 0, none⟩), .pointer (some ⟨gk, 0, none⟩)] :: .int .i64 kd :: u9 :: u10 :: u11 :: u12 :: u13 :: u14 :: u15 :: u16 :: u17 :: u18 :: u19 :: u20 :: u21 :: u22 :: u23 :: u24 :: u25 :: u26 :: u27 :: u28 :: u29 :: u30 :: u31 :: u32 :: u33 :: u34 :: u35 :: u36 :: u37 :: u38 :: u39 :: u40 :: u41 :: u42 :: u43 :: u44 :: u45 :: u46 :: u47 :: u48 :: u49 :: u50 :: u51 :: u52 :: u53 :: u54 :: u55 :: u56 :: u57 :: u58 :: u59 :: u60 :: u61 :: u62 :: u63 :: u64 :: u65 :: u66 :: u67 :: u68 :: u69 :: u70 :: u71 :: u72 :: u73 :: u74 :: u75 :: u76 :: u77 :: u78 :: u79 :: u80 :: u81 :: u82 :: u83 :: u84 :: u85 :: u86 :: u87 :: u88 :: u89 :: u90 :: u91 :: u92 :: u93 :: u94 :: u95 :: u96 :: u97 :: u98 :: u99 :: u100 :: u101 :: u102 :: u103 :: u104 :: u105 :: u106 :: u107 :: u108 :: u109 :: u110 :: u111 :: u112 :: u113 :: u114 :: u115 :: u116 :: u117 :: u118 :: u119 :: u120 :: u121 :: u122 :: u123 :: u124 :: u125 :: u126 :: u127 :: u128 :: u129 :: u130 :: u131 :: u132 :: u133 :: u134 :: u135 :: u136 :: u137 :: u138 :: u139 :: u140 :: u141 :: u142 :: u143 :: u144 :: u145 :: u146 :: u147 :: u148 :: u149 :: u150 :: u151 :: u152 :: u153 :: u154 :: u155 :: u156 :: u157 :: u158 :: u159 :: u160 :: u161 :: u162 :: u163 :: u164 :: u165 :: u166 :: u167 :: u168 :: u169 :: u170 :: u171 :: u172 :: u173 :: u174 :: u175 :: u176 :: u177 :: u178 :: u179 :: u180 :: u181 :: u182 :: u183 :: u184 :: u185 :: u186 :: u187 :: u188 :: u189 :: u190 :: u191 :: u192 :: []).toArray, []⟩ w4 := by
 have hP := HP.out
 have ht := HT.out
 have hok := HOK.out
 have HR := Lib.hid (fun W => Rest_any xb 5 W HB.out.2.1 HB.out.2.2 (by decide) (by decide))
 obtain ⟨n, hn⟩ : ∃ z, z = xb % 5 := ⟨_, rfl⟩
 rw [← hn] at HR
 have hn0 : 0 ≤ n ∧ n ≤ 4 := by omega
 have h5 := hP.tick n hn0 (by omega)
 have ha := hP.ca
 have hb := hP.cb
 have na := hP.na
 have nb := hP.nb
 dsimp only at h5 ha hb na nb
 have HRL := Lib.hid (fun (W : World) (kk' : Int) (va' : Value) (gia' gwa' : Nat) (ka' : KPt) (gib' gwb' : Nat) (kb' : KPt) (y : KPr) (N' : Nat) (h : MemX E w0 W (doM gx gk gs gp ga gb kk' va' gia' gwa' ka' gib' gwb' kb' cs y m)) (h1 : KPl.ok ⟨gp, ga, gia', gwa', ka', gb, gib', gwb', kb', va'⟩ y) (h2 : PI iss irs N' (t + 1) y) (h3 : N' ≤ N + s.size) => (⟨kk', va', gia', gwa', ka', gib', gwb', kb', y, N', h, h1, h2, h3⟩ : doRel E w0 gx gk gs gp ga gb cs m iss irs (N + s.size) (t + 1) W))
 have HTA := Lib.hid (fun (W : World) (h : MemX E w0 W (atR gx 40 [.pointer (some ⟨gp, 0, none⟩)] :: atR gk 3 [.int .i64 kk] :: prR gp ga gb va p :: arR va p.air :: atR gs 70 cs :: (cnH ga gia gwa a ka ++ (cnH gb gib gwb b kb ++ m)))) => tickF [atR gx 40 [.pointer (some ⟨gp, 0, none⟩)], atR gk 3 [.int .i64 kk], prR gp ga gb va p, arR va p.air, atR gs 70 cs] (cnH gb gib gwb b kb ++ m) h hok.1 ha (by omega) n hn0.1 (by omega))
 have HTB := Lib.hid (fun (W : World) (h : MemX E w0 W (atR gx 40 [.pointer (some ⟨gp, 0, none⟩)] :: atR gk 3 [.int .i64 kk] :: prR gp ga gb va p :: arR va p.air :: atR gs 70 cs :: (cnH ga gia gwa (cTick a n) ka ++ (cnH gb gib gwb b kb ++ m)))) => tickF (atR gx 40 [.pointer (some ⟨gp, 0, none⟩)] :: atR gk 3 [.int .i64 kk] :: prR gp ga gb va p :: arR va p.air :: atR gs 70 cs :: cnH ga gia gwa (cTick a n) ka) m h hok.2 hb (by omega) n hn0.1 (by omega))
 have H5 := Lib.hid h5
 clear hP ht hok hn hn0 h5 ha hb na nb
 obtain ⟨a1, ha1⟩ : ∃ z, z = cTick a n := ⟨_, rfl⟩
 obtain ⟨b1, hb1⟩ : ∃ z, z = cTick b n := ⟨_, rfl⟩
 rw [← ha1] at HTA HTB H5
 rw [← hb1] at HTB H5
 clear ha1 hb1
 have tk : decide (kd < 2) = false := decide_eq_false (by omega)
 have tk2 : (kd == 2) = false := by simp; omega
 have tk3 : (kd == 3) = true := by rw [h]; rfl
 clear h
 conv => arg 2; whnf
 have HB1 := Lib.hid HB.out.1
 go_upto_if 149 with (first | go_skip | ((with_reducible refine at_load_ ?_); refine at_wanted_ (by rfl) ?_; first | (refine lM 0 hM rfl rfl rfl rfl ?_) | (refine lM 2 hM rfl rfl rfl rfl ?_)) | ((with_reducible refine at_load_ ?_); refine at_wanted_ (by rfl) ?_; refine lM 4 hM rfl rfl rfl (by first | exact HB1.out | rfl) ?_) | (go_at_call 13; refine (HR.out _).mono ?_; rintro e W ⟨rfl, rfl⟩; dsimp only) | (go_at_call 18; first | ((with_reducible refine (HTA.out _ hM).mono ?_); clear hM; rintro e W ⟨rfl, hM, hK1⟩; have HK1 := Lib.hid hK1; clear hK1; dsimp only) | ((with_reducible refine (HTB.out _ hM).mono ?_); clear hM; rintro e W ⟨rfl, hM, hK2⟩; have HK2 := Lib.hid hK2; clear hK2; dsimp only)))
 (go_wp2_with fail)
 first | exact hK _ _ _ _ _ _ _ _ _ _ _ _ _ _ _ _ _ _ _ _ _ _ _ _ _ _ _ _ _ _ _ _ _ _ _ _ _ _ _ _ _ _ _ _ _ _ _ _ _ _ _ _ _ _ _ _ _ _ _ _ _ _ _ _ _ _ _ _ _ _ _ _ _ _ _ _ _ _ _ _ _ _ _ _ _ _ _ _ _ _ _ _ _ _ _ _ _ _ _ _ _ _ _ _ _ _ _ _ _ _ _ _ _ _ _ _ _ _ _ _ _ _ _ _ _ _ _ _ _ _ _ _ _ _ _ _ _ _ _ _ _ _ _ _ _ _ _ _ _ _ _ _ _ _ _ _ _ _ _ _ _ _ _ _ (HRL.out _ _ _ _ _ _ _ _ _ (⟨a1, b1, p⟩ : KPr) _ hM ⟨HK1.out, HK2.out⟩ H5.out (Nat.le_add_right _ _)) | exact (HRL.out _ _ _ _ _ _ _ _ _ (⟨a1, b1, p⟩ : KPr) _ hM ⟨HK1.out, HK2.out⟩ H5.out (Nat.le_add_right _ _))
set_option maxRecDepth 100000 in
set_option maxHeartbeats 8000000 in
theorem do_reads0 (h : kd = 4 ∨ kd = 5) (hi : ii = 0) : Code.wp Try.prog doSwitch (Exit.then K Q0) ⟨(u0 :: u1 :: .pointer (some ⟨gx, 0, none⟩) :: .pointer (some ⟨gs, 0, none⟩) :: u4 :: .pointer (some ⟨gk, 0, none⟩) :: .int .i64 ii :: .func (.func 58) #[] #[.pointer (some ⟨gx, 0, none⟩), .pointer (some ⟨gk, 0, none⟩)] :: .int .i64 kd :: u9 :: u10 :: u11 :: u12 :: u13 :: u14 :: u15 :: u16 :: u17 :: u18 :: u19 :: u20 :: u21 :: u22 :: u23 :: u24 :: u25 :: u26 :: u27 :: u28 :: u29 :: u30 :: u31 :: u32 :: u33 :: u34 :: u35 :: u36 :: u37 :: u38 :: u39 :: u40 :: u41 :: u42 :: u43 :: u44 :: u45 :: u46 :: u47 :: u48 :: u49 :: u50 :: u51 :: u52 :: u53 :: u54 :: u55 :: u56 :: u57 :: u58 :: u59 :: u60 :: u61 :: u62 :: u63 :: u64 :: u65 :: u66 :: u67 :: u68 :: u69 :: u70 :: u71 :: u72 :: u73 :: u74 :: u75 :: u76 :: u77 :: u78 :: u79 :: u80 :: u81 :: u82 :: u83 :: u84 :: u85 :: u86 :: u87 :: u88 :: u89 :: u90 :: u91 :: u92 :: u93 :: u94 :: u95 :: u96 :: u97 :: u98 :: u99 :: u100 :: u101 :: u102 :: u103 :: u104 :: u105 :: u106 :: u107 :: u108 :: u109 :: u110 :: u111 :: u112 :: u113 :: u114 :: u115 :: u116 :: u117 :: u118 :: u119 :: u120 :: u121 :: u122 :: u123 :: u124 :: u125 :: u126 :: u127 :: u128 :: u129 :: u130 :: u131 :: u132 :: u133 :: u134 :: u135 :: u136 :: u137 :: u138 :: u139 :: u140 :: u141 :: u142 :: u143 :: u144 :: u145 :: u146 :: u147 :: u148 :: u149 :: u150 :: u151 :: u152 :: u153 :: u154 :: u155 :: u156 :: u157 :: u158 :: u159 :: u160 :: u161 :: u162 :: u163 :: u164 :: u165 :: u166 :: u167 :: u168 :: u169 :: u170 :: u171 :: u172 :: u173 :: u174 :: u175 :: u176 :: u177 :: u178 :: u179 :: u180 :: u181 :: u182 :: u183 :: u184 :: u185 :: u186 :: u187 :: u188 :: u189 :: u190 :: u191 :: u192 :: []).toArray, []⟩ w4 := by
 subst hi
 have hP := HP.out
 have hok := HOK.out
 have HR := Lib.hid (fun W => Rest_any xb 600 W HB.out.2.1 HB.out.2.2 (by decide) (by decide))
 obtain ⟨n, hn⟩ : ∃ z, z = xb % 600 := ⟨_, rfl⟩
 rw [← hn] at HR
 have hn0 : 0 ≤ n ∧ n ≤ 600 := by omega
 have HY := Lib.hid (show ∀ y, Rd0 ⟨a, b, p⟩ n y → PI iss irs N (t + 1) y from by
  rintro y ⟨o, rfl⟩
  exact (hP.read0 n o).1)
 have HRL := Lib.hid (fun (W : World) (kk' : Int) (va' : Value) (gia' gwa' : Nat) (ka' : KPt) (gib' gwb' : Nat) (kb' : KPt) (y : KPr) (N' : Nat) (h : MemX E w0 W (doM gx gk gs gp ga gb kk' va' gia' gwa' ka' gib' gwb' kb' cs y m)) (h1 : KPl.ok ⟨gp, ga, gia', gwa', ka', gb, gib', gwb', kb', va'⟩ y) (h2 : PI iss irs N' (t + 1) y) (h3 : N' ≤ N + s.size) => (⟨kk', va', gia', gwa', ka', gib', gwb', kb', y, N', h, h1, h2, h3⟩ : doRel E w0 gx gk gs gp ga gb cs m iss irs (N + s.size) (t + 1) W))
 have HRD := Lib.hid (fun (W : World) (h : MemX E w0 W (atR gx 40 [.pointer (some ⟨gp, 0, none⟩)] :: atR gk 3 [.int .i64 kk] :: prR gp ga gb va p :: arR va p.air :: atR gs 70 cs :: (cnH ga gia gwa a ka ++ (cnH gb gib gwb b kb ++ m)))) => reads_0 ⟨gp, ga, gia, gwa, ka, gb, gib, gwb, kb, va⟩ ⟨a, b, p⟩ (atR gx 40 [.pointer (some ⟨gp, 0, none⟩)] :: atR gk 3 [.int .i64 kk] :: atR gs 70 cs :: m) W (do_to h) hok hP n (by omega) (by omega))
 clear hP hok hn hn0
 have tk : decide (kd < 2) = false := decide_eq_false (by omega)
 have tk2 : (kd == 2) = false := by simp; omega
 have tk3 : (kd == 3) = false := by simp; omega
 have tk6 : decide (kd < 6) = true := decide_eq_true (by omega)
 clear h
 conv => arg 2; whnf
 go_upto_region 25 with (fail)
 refine wp_region_M [0,4] [] hM (by kernel_rfl) ?_
 clear hM
 intro wo hM
 refine tL 0 (v := ?_) rfl ⟨fun r hr => hM.get 0 hr, fun r hr => hM.get 4 hr, trivial⟩ (Or.inl ⟨by rfl, ?hy⟩) ?_
 case hy => (rintro W ⟨i0, i4, -⟩; have c0 := (show At W _ _ _ from i0 _ rfl).cell; have c4 := (show At W _ _ _ from i4 _ rfl).cell; (try simp only [prC] at c0 c4); go_simp; (try with_reducible rfl))
 simp only [zz]
 refine tW 1 rfl ?_
 simp only [zz]
 refine tW 2 rfl ?_
 simp only [zz]
 refine tL 3 (v := .int .i64 xb) rfl ⟨fun r hr => hM.get 0 hr, fun r hr => hM.get 4 hr, trivial⟩ (Or.inl ⟨by rfl, ?hy⟩) ?_
 case hy => (rintro W ⟨i0, i4, -⟩; have c0 := (show At W _ _ _ from i0 _ rfl).cell; have c4 := (show At W _ _ _ from i4 _ rfl).cell; (try simp only [prC] at c0 c4); (go_simp; rw [HB.out.1]; rfl))
 simp only [zz]
 refine wpI_one (i := 4) rfl (by kernel_rfl) ?_
 (try simp only [zz])
 go_wp2_with (first
   | go_skip
   | ((go_at_call 13; refine (HR.out _).mono ?_; rintro e W ⟨rfl, rfl⟩; dsimp only))
   | ((go_at_call 31; refine (HRD.out _ hM).mono ?_; clear hM; rintro e W ⟨rfl, ⟨a1, b1, p1⟩, hM, hok, hr⟩; have HK1 := Lib.hid hok; have H5 := Lib.hid (HY.out _ hr); clear hok hr; replace hM := do_fro hM; dsimp only)))
 refine contI_normal ⟨fun r hr => hM.get 0 hr, fun r hr => hM.get 4 hr, trivial⟩ ?_
 (try simp only [zz])
 refine wpI_one (i := 5) rfl (by kernel_rfl) ?_
 (try simp only [zz])
 go_wp2_with (first
   | go_skip
   | ((go_at_call 13; refine (HR.out _).mono ?_; rintro e W ⟨rfl, rfl⟩; dsimp only))
   | ((go_at_call 31; refine (HRD.out _ hM).mono ?_; clear hM; rintro e W ⟨rfl, ⟨a1, b1, p1⟩, hM, hok, hr⟩; have HK1 := Lib.hid hok; have H5 := Lib.hid (HY.out _ hr); clear hok hr; replace hM := do_fro hM; dsimp only)))
 refine contI_normal ⟨fun r hr => hM.get 0 hr, fun r hr => hM.get 4 hr, trivial⟩ ?_
 (try simp only [zz])
 refine tW 6 rfl ?_
 simp only [zz]
 refine wpI_done (by kernel_rfl) ?_ _
 (try simp only [zz])
 (go_wp2_with fail)
 first | exact hK _ _ _ _ _ _ _ _ _ _ _ _ _ _ _ _ _ _ _ _ _ _ _ _ _ _ _ _ _ _ _ _ _ _ _ _ _ _ _ _ _ _ _ _ _ _ _ _ _ _ _ _ _ _ _ _ _ _ _ _ _ _ _ _ _ _ _ _ _ _ _ _ _ _ _ _ _ _ _ _ _ _ _ _ _ _ _ _ _ _ _ _ _ _ _ _ _ _ _ _ _ _ _ _ _ _ _ _ _ _ _ _ _ _ _ _ _ _ _ _ _ _ _ _ _ _ _ _ _ _ _ _ _ _ _ _ _ _ _ _ _ _ _ _ _ _ _ _ _ _ _ _ _ _ _ _ _ _ _ _ _ _ _ _ (HRL.out _ _ _ _ _ _ _ _ _ (⟨a1, b1, p1⟩ : KPr) _ hM HK1.out H5.out (Nat.le_add_right _ _)) | exact (HRL.out _ _ _ _ _ _ _ _ _ (⟨a1, b1, p1⟩ : KPr) _ hM HK1.out H5.out (Nat.le_add_right _ _))
set_option maxRecDepth 100000 in
set_option maxHeartbeats 8000000 in
theorem do_reads1 (h : kd = 4 ∨ kd = 5) (hi : ii = 1) : Code.wp Try.prog doSwitch (Exit.then K Q0) ⟨(u0 :: u1 :: .pointer (some ⟨gx, 0, none⟩) :: .pointer (some ⟨gs, 0, none⟩) :: u4 :: .pointer (some ⟨gk, 0, none⟩) :: .int .i64 ii :: .func (.func 58) #[] #[.pointer (some ⟨gx, 0, none⟩), .pointer (some ⟨gk, 0, none⟩)] :: .int .i64 kd :: u9 :: u10 :: u11 :: u12 :: u13 :: u14 :: u15 :: u16 :: u17 :: u18 :: u19 :: u20 :: u21 :: u22 :: u23 :: u24 :: u25 :: u26 :: u27 :: u28 :: u29 :: u30 :: u31 :: u32 :: u33 :: u34 :: u35 :: u36 :: u37 :: u38 :: u39 :: u40 :: u41 :: u42 :: u43 :: u44 :: u45 :: u46 :: u47 :: u48 :: u49 :: u50 :: u51 :: u52 :: u53 :: u54 :: u55 :: u56 :: u57 :: u58 :: u59 :: u60 :: u61 :: u62 :: u63 :: u64 :: u65 :: u66 :: u67 :: u68 :: u69 :: u70 :: u71 :: u72 :: u73 :: u74 :: u75 :: u76 :: u77 :: u78 :: u79 :: u80 :: u81 :: u82 :: u83 :: u84 :: u85 :: u86 :: u87 :: u88 :: u89 :: u90 :: u91 :: u92 :: u93 :: u94 :: u95 :: u96 :: u97 :: u98 :: u99 :: u100 :: u101 :: u102 :: u103 :: u104 :: u105 :: u106 :: u107 :: u108 :: u109 :: u110 :: u111 :: u112 :: u113 :: u114 :: u115 :: u116 :: u117 :: u118 :: u119 :: u120 :: u121 :: u122 :: u123 :: u124 :: u125 :: u126 :: u127 :: u128 :: u129 :: u130 :: u131 :: u132 :: u133 :: u134 :: u135 :: u136 :: u137 :: u138 :: u139 :: u140 :: u141 :: u142 :: u143 :: u144 :: u145 :: u146 :: u147 :: u148 :: u149 :: u150 :: u151 :: u152 :: u153 :: u154 :: u155 :: u156 :: u157 :: u158 :: u159 :: u160 :: u161 :: u162 :: u163 :: u164 :: u165 :: u166 :: u167 :: u168 :: u169 :: u170 :: u171 :: u172 :: u173 :: u174 :: u175 :: u176 :: u177 :: u178 :: u179 :: u180 :: u181 :: u182 :: u183 :: u184 :: u185 :: u186 :: u187 :: u188 :: u189 :: u190 :: u191 :: u192 :: []).toArray, []⟩ w4 := by
 subst hi
 have hP := HP.out
 have hok := HOK.out
 have HR := Lib.hid (fun W => Rest_any xb 600 W HB.out.2.1 HB.out.2.2 (by decide) (by decide))
 obtain ⟨n, hn⟩ : ∃ z, z = xb % 600 := ⟨_, rfl⟩
 rw [← hn] at HR
 have hn0 : 0 ≤ n ∧ n ≤ 600 := by omega
 have HY := Lib.hid (show ∀ y, Rd1 ⟨a, b, p⟩ n y → PI iss irs N (t + 1) y from by
  rintro y ⟨o, rfl⟩
  exact (hP.read1 n o).1)
 have HRL := Lib.hid (fun (W : World) (kk' : Int) (va' : Value) (gia' gwa' : Nat) (ka' : KPt) (gib' gwb' : Nat) (kb' : KPt) (y : KPr) (N' : Nat) (h : MemX E w0 W (doM gx gk gs gp ga gb kk' va' gia' gwa' ka' gib' gwb' kb' cs y m)) (h1 : KPl.ok ⟨gp, ga, gia', gwa', ka', gb, gib', gwb', kb', va'⟩ y) (h2 : PI iss irs N' (t + 1) y) (h3 : N' ≤ N + s.size) => (⟨kk', va', gia', gwa', ka', gib', gwb', kb', y, N', h, h1, h2, h3⟩ : doRel E w0 gx gk gs gp ga gb cs m iss irs (N + s.size) (t + 1) W))
 have HRD := Lib.hid (fun (W : World) (h : MemX E w0 W (atR gx 40 [.pointer (some ⟨gp, 0, none⟩)] :: atR gk 3 [.int .i64 kk] :: prR gp ga gb va p :: arR va p.air :: atR gs 70 cs :: (cnH ga gia gwa a ka ++ (cnH gb gib gwb b kb ++ m)))) => reads_1 ⟨gp, ga, gia, gwa, ka, gb, gib, gwb, kb, va⟩ ⟨a, b, p⟩ (atR gx 40 [.pointer (some ⟨gp, 0, none⟩)] :: atR gk 3 [.int .i64 kk] :: atR gs 70 cs :: m) W (do_to h) hok hP n (by omega) (by omega))
 clear hP hok hn hn0
 have tk : decide (kd < 2) = false := decide_eq_false (by omega)
 have tk2 : (kd == 2) = false := by simp; omega
 have tk3 : (kd == 3) = false := by simp; omega
 have tk6 : decide (kd < 6) = true := decide_eq_true (by omega)
 clear h
 conv => arg 2; whnf
 go_upto_region 25 with (fail)
 refine wp_region_M [0,4] [] hM (by kernel_rfl) ?_
 clear hM
 intro wo hM
 refine tL 0 (v := ?_) rfl ⟨fun r hr => hM.get 0 hr, fun r hr => hM.get 4 hr, trivial⟩ (Or.inl ⟨by rfl, ?hy⟩) ?_
 case hy => (rintro W ⟨i0, i4, -⟩; have c0 := (show At W _ _ _ from i0 _ rfl).cell; have c4 := (show At W _ _ _ from i4 _ rfl).cell; (try simp only [prC] at c0 c4); go_simp; (try with_reducible rfl))
 simp only [zz]
 refine tW 1 rfl ?_
 simp only [zz]
 refine tW 2 rfl ?_
 simp only [zz]
 refine tL 3 (v := .int .i64 xb) rfl ⟨fun r hr => hM.get 0 hr, fun r hr => hM.get 4 hr, trivial⟩ (Or.inl ⟨by rfl, ?hy⟩) ?_
 case hy => (rintro W ⟨i0, i4, -⟩; have c0 := (show At W _ _ _ from i0 _ rfl).cell; have c4 := (show At W _ _ _ from i4 _ rfl).cell; (try simp only [prC] at c0 c4); (go_simp; rw [HB.out.1]; rfl))
 simp only [zz]
 refine wpI_one (i := 4) rfl (by kernel_rfl) ?_
 (try simp only [zz])
 go_wp2_with (first
   | go_skip
   | ((go_at_call 13; refine (HR.out _).mono ?_; rintro e W ⟨rfl, rfl⟩; dsimp only))
   | ((go_at_call 31; refine (HRD.out _ hM).mono ?_; clear hM; rintro e W ⟨rfl, ⟨a1, b1, p1⟩, hM, hok, hr⟩; have HK1 := Lib.hid hok; have H5 := Lib.hid (HY.out _ hr); clear hok hr; replace hM := do_fro hM; dsimp only)))
 refine contI_normal ⟨fun r hr => hM.get 0 hr, fun r hr => hM.get 4 hr, trivial⟩ ?_
 (try simp only [zz])
 refine wpI_one (i := 5) rfl (by kernel_rfl) ?_
 (try simp only [zz])
 go_wp2_with (first
   | go_skip
   | ((go_at_call 13; refine (HR.out _).mono ?_; rintro e W ⟨rfl, rfl⟩; dsimp only))
   | ((go_at_call 31; refine (HRD.out _ hM).mono ?_; clear hM; rintro e W ⟨rfl, ⟨a1, b1, p1⟩, hM, hok, hr⟩; have HK1 := Lib.hid hok; have H5 := Lib.hid (HY.out _ hr); clear hok hr; replace hM := do_fro hM; dsimp only)))
 refine contI_normal ⟨fun r hr => hM.get 0 hr, fun r hr => hM.get 4 hr, trivial⟩ ?_
 (try simp only [zz])
 refine tW 6 rfl ?_
 simp only [zz]
 refine wpI_done (by kernel_rfl) ?_ _
 (try simp only [zz])
 (go_wp2_with fail)
 first | exact hK _ _ _ _ _ _ _ _ _ _ _ _ _ _ _ _ _ _ _ _ _ _ _ _ _ _ _ _ _ _ _ _ _ _ _ _ _ _ _ _ _ _ _ _ _ _ _ _ _ _ _ _ _ _ _ _ _ _ _ _ _ _ _ _ _ _ _ _ _ _ _ _ _ _ _ _ _ _ _ _ _ _ _ _ _ _ _ _ _ _ _ _ _ _ _ _ _ _ _ _ _ _ _ _ _ _ _ _ _ _ _ _ _ _ _ _ _ _ _ _ _ _ _ _ _ _ _ _ _ _ _ _ _ _ _ _ _ _ _ _ _ _ _ _ _ _ _ _ _ _ _ _ _ _ _ _ _ _ _ _ _ _ _ _ (HRL.out _ _ _ _ _ _ _ _ _ (⟨a1, b1, p1⟩ : KPr) _ hM HK1.out H5.out (Nat.le_add_right _ _)) | exact (HRL.out _ _ _ _ _ _ _ _ _ (⟨a1, b1, p1⟩ : KPr) _ hM HK1.out H5.out (Nat.le_add_right _ _))
end
end Go.Proofs.Ytfpifahkpkjfgaa
