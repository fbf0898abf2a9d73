/- What UConnStream needs, a part: CnDb. -/
import Derived.Deep.CutBlock
import Derived.Test.YtfpifahkpkjfgaaMZ
import Derived.Test.YtfpifahkpkjfgaaMUConnStream12
import Derived.Test.YtfpifahkpkjfgaaMUConnStream43
/- conn: does: Write. Written by my gencn.py. -/
namespace Go.Proofs.Ytfpifahkpkjfgaa
open Go.RowKit Go.Lib
set_option linter.unusedVariables false
set_option linter.unusedSimpArgs false
set_option linter.unusedSectionVars false
set_option maxRecDepth 100000
section
variable {u0 u1 u4 u9 u10 u11 u12 u13 u14 u15 u16 u17 u18 u19 u20 u21 u22 u23 u24 u25 u26 u27 u28 u29 u30 u31 u32 u33 u34 u35 u36 u37 u38 u39 u40 u41 u42 u43 u44 u45 u46 u47 u48 u49 u50 u51 u52 u53 u54 u55 u56 u57 u58 u59 u60 u61 u62 u63 u64 u65 u66 u67 u68 u69 u70 u71 u72 u73 u74 u75 u76 u77 u78 u79 u80 u81 u82 u83 u84 u85 u86 u87 u88 u89 u90 u91 u92 u93 u94 u95 u96 u97 u98 u99 u100 u101 u102 u103 u104 u105 u106 u107 u108 u109 u110 u111 u112 u113 u114 u115 u116 u117 u118 u119 u120 u121 u122 u123 u124 u125 u126 u127 u128 u129 u130 u131 u132 u133 u134 u135 u136 u137 u138 u139 u140 u141 u142 u143 u144 u145 u146 u147 u148 u149 u150 u151 u152 u153 u154 u155 u156 u157 u158 u159 u160 u161 u162 u163 u164 u165 u166 u167 u168 u169 u170 u171 u172 u173 u174 u175 u176 u177 u178 u179 u180 u181 u182 u183 u184 u185 u186 u187 u188 u189 u190 u191 u192 : Value} {E : Nat → Prop} {w0 w4 : World} (gx gk gs gp ga gb : Nat) (kk : Int) (va : Value) (gia gwa : Nat) (ka : KPt) (gib gwb : Nat) (kb : KPt) (cs : List Value) (a b : KCn) (p : KPa) (m : List Res) {iss irs t : Int} {N : Nat} (ii kd xb : Int) (s : ByteArray) (K : Act → World → Prop) (Q0 : Exit → Act → World → Prop)
 (hM : MemX E w0 w4 (atR gx 40 [.pointer (some ⟨gp, 0, none⟩)] :: atR gk 3 [.int .i64 kk] :: prR gp ga gb va p :: arR va p.air :: atR gs 70 cs :: (cnH ga gia gwa a ka ++ (cnH gb gib gwb b kb ++ m)))) (HP : Hid (PI iss irs N t ⟨a, b, p⟩)) (HOK : Hid (KOk ka gia gwa a.h ∧ KOk kb gib gwb b.h)) (HB : Hid (cs[2]? = some (.int .i64 xb) ∧ -9223372036854775808 ≤ xb ∧ xb ≤ 9223372036854775807)) (HS4 : Hid (cs[4]? = some (.string s))) (HT : Hid (t ≤ 100000000 ∧ N + s.size ≤ 1048576))
 (HQ0 : Hid (∀ c d v a w, Q0 (.panic c) (Act.put a d v) w → Q0 (.panic c) a w))
 (hK : ∀ (v4 v9 v10 v11 v12 v13 v34 v35 v36 v37 v38 v39 v40 v41 v42 v43 v44 v45 v46 v47 v48 v49 v50 v51 v52 v53 v54 v55 v56 v57 v58 v59 v60 v61 v62 v63 v64 v65 v66 v67 v68 v69 v70 v71 v72 v73 v74 v75 v76 v77 v78 v79 v80 v81 v82 v83 v84 v85 v86 v87 v88 v89 v90 v91 v92 v93 v94 v95 v96 v97 v98 v99 v100 v101 v102 v103 v104 v105 v106 v107 v108 v109 v110 v111 v112 v113 v114 v115 v116 v117 v118 v119 v120 v121 v122 v123 v124 v125 v126 v127 v128 v129 v130 v131 v132 v133 v134 v135 v136 v137 v138 v139 v140 v141 v142 v143 v144 v145 v146 v147 v148 v149 v150 v151 v152 v153 v154 v155 v156 v157 v158 v159 v160 v161 v162 v163 v164 v165 v166 v167 v168 v169 v170 v171 v172 v173 v174 v175 v176 v177 v178 v179 v180 v181 v182 v183 v184 v185 v186 v187 v188 v189 v190 : Value) (W : World), doRel E w0 gx gk gs gp ga gb cs m iss irs (N + s.size) (t + 1) W → K ⟨(u0 :: u1 :: .pointer (some ⟨gx, 0, none⟩) :: .pointer (some ⟨gs, 0, none⟩) :: v4 :: .pointer (some ⟨gk, 0, none⟩) :: .int .i64 ii :: .func (.func 58) #[] #[.pointer (some ⟨gx, 0, none⟩), .pointer (some ⟨gk, 0, none⟩)] :: .int .i64 kd :: v9 :: v10 :: v11 :: v12 :: v13 :: u14 :: u15 :: u16 :: u17 :: u18 :: u19 :: u20 :: u21 :: u22 :: u23 :: u24 :: u25 :: u26 :: u27 :: u28 :: u29 :: u30 :: u31 :: u32 :: u33 :: v34 :: v35 :: v36 :: v37 :: v38 :: v39 :: v40 :: v41 :: v42 :: v43 :: v44 :: v45 :: v46 :: v47 :: v48 :: v49 :: v50 :: v51 :: v52 :: v53 :: v54 :: v55 :: v56 :: v57 :: v58 :: v59 :: v60 :: v61 :: v62 :: v63 :: v64 :: v65 :: v66 :: v67 :: v68 :: v69 :: v70 :: v71 :: v72 :: v73 :: v74 :: v75 :: v76 :: v77 :: v78 :: v79 :: v80 :: v81 :: v82 :: v83 :: v84 :: v85 :: v86 :: v87 :: v88 :: v89 :: v90 :: v91 :: v92 :: v93 :: v94 :: v95 :: v96 :: v97 :: v98 :: v99 :: v100 :: v101 :: v102 :: v103 :: v104 :: v105 :: v106 :: v107 :: v108 :: v109 :: v110 :: v111 :: v112 :: v113 :: v114 :: v115 :: v116 :: v117 :: v118 :: v119 :: v120 :: v121 :: v122 :: v123 :: v124 :: v125 :: v126 :: v127 :: v128 :: v129 :: v130 :: v131 :: v132 :: v133 :: v134 :: v135 :: v136 :: v137 :: v138 :: v139 :: v140 :: v141 :: v142 :: v143 :: v144 :: v145 :: v146 :: v147 :: v148 :: v149 :: v150 :: v151 :: v152 :: v153 :: v154 :: v155 :: v156 :: v157 :: v158 :: v159 :: v160 :: v161 :: v162 :: v163 :: v164 :: v165 :: v166 :: v167 :: v168 :: v169 :: v170 :: v171 :: v172 :: v173 :: v174 :: v175 :: v176 :: v177 :: v178 :: v179 :: v180 :: v181 :: v182 :: v183 :: v184 :: v185 :: v186 :: v187 :: v188 :: v189 :: v190 :: u191 :: u192 :: []).toArray, []⟩ W)
include hM HP HOK HB HS4 HT HQ0 hK
set_option maxRecDepth 100000 in
set_option maxHeartbeats 8000000 in
theorem do_write0 (h : kd = 0 ∨ kd = 1) (hi : ii = 0) : Code.wp Try.prog doSwitch (Exit.then K Q0) ⟨(u0 :: u1 :: .pointer (some ⟨gx, 0, none⟩) :: .pointer (some ⟨gs, 0, none⟩) :: u4 :: .pointer (some ⟨gk, 0, none⟩) :: .int .i64 ii :: .func (.func 58) #[] #[.pointer (some ⟨gx, 0, none⟩), .pointer (some ⟨gk, 0, none⟩)] :: .int .i64 kd :: u9 :: u10 :: u11 :: u12 :: u13 :: u14 :: u15 :: u16 :: u17 :: u18 :: u19 :: u20 :: u21 :: u22 :: u23 :: u24 :: u25 :: u26 :: u27 :: u28 :: u29 :: u30 :: u31 :: u32 :: u33 :: u34 :: u35 :: u36 :: u37 :: u38 :: u39 :: u40 :: u41 :: u42 :: u43 :: u44 :: u45 :: u46 :: u47 :: u48 :: u49 :: u50 :: u51 :: u52 :: u53 :: u54 :: u55 :: u56 :: u57 :: u58 :: u59 :: u60 :: u61 :: u62 :: u63 :: u64 :: u65 :: u66 :: u67 :: u68 :: u69 :: u70 :: u71 :: u72 :: u73 :: u74 :: u75 :: u76 :: u77 :: u78 :: u79 :: u80 :: u81 :: u82 :: u83 :: u84 :: u85 :: u86 :: u87 :: u88 :: u89 :: u90 :: u91 :: u92 :: u93 :: u94 :: u95 :: u96 :: u97 :: u98 :: u99 :: u100 :: u101 :: u102 :: u103 :: u104 :: u105 :: u106 :: u107 :: u108 :: u109 :: u110 :: u111 :: u112 :: u113 :: u114 :: u115 :: u116 :: u117 :: u118 :: u119 :: u120 :: u121 :: u122 :: u123 :: u124 :: u125 :: u126 :: u127 :: u128 :: u129 :: u130 :: u131 :: u132 :: u133 :: u134 :: u135 :: u136 :: u137 :: u138 :: u139 :: u140 :: u141 :: u142 :: u143 :: u144 :: u145 :: u146 :: u147 :: u148 :: u149 :: u150 :: u151 :: u152 :: u153 :: u154 :: u155 :: u156 :: u157 :: u158 :: u159 :: u160 :: u161 :: u162 :: u163 :: u164 :: u165 :: u166 :: u167 :: u168 :: u169 :: u170 :: u171 :: u172 :: u173 :: u174 :: u175 :: u176 :: u177 :: u178 :: u179 :: u180 :: u181 :: u182 :: u183 :: u184 :: u185 :: u186 :: u187 :: u188 :: u189 :: u190 :: u191 :: u192 :: []).toArray, []⟩ w4 := by
 subst hi
 have hP := HP.out
 obtain ⟨h1, h2, h3, h4⟩ := hP.wrote0 s
 have h5 := hP.write0 s HT.out.2
 have h6 := hP.w0z
 have h7 := hP.ca
 have hok := HOK.out
 have ht := HT.out
 dsimp only at h1 h2 h3 h4 h5 h6 h7
 clear hP
 have HRL := Lib.hid (fun (W : World) (kk' : Int) (va' : Value) (gia' gwa' : Nat) (ka' : KPt) (gib' gwb' : Nat) (kb' : KPt) (y : KPr) (N' : Nat) (h : MemX E w0 W (doM gx gk gs gp ga gb kk' va' gia' gwa' ka' gib' gwb' kb' cs y m)) (h1 : KPl.ok ⟨gp, ga, gia', gwa', ka', gb, gib', gwb', kb', va'⟩ y) (h2 : PI iss irs N' (t + 1) y) (h3 : N' ≤ N + s.size) => (⟨kk', va', gia', gwa', ka', gib', gwb', kb', y, N', h, h1, h2, h3⟩ : doRel E w0 gx gk gs gp ga gb cs m iss irs (N + s.size) (t + 1) W))
 have HWR := Lib.hid (fun (W : World) (h : MemX E w0 W (atR gx 40 [.pointer (some ⟨gp, 0, none⟩)] :: atR gk 3 [.int .i64 kk] :: prR gp ga gb va p :: arR va p.air :: atR gs 70 cs :: (cnH ga gia gwa a ka ++ (cnH gb gib gwb b kb ++ m)))) => writeF [atR gx 40 [.pointer (some ⟨gp, 0, none⟩)], atR gk 3 [.int .i64 kk], prR gp ga gb va p, arR va p.air, atR gs 70 cs] (cnH gb gib gwb b kb ++ m) h hok.1 h7 (by omega) s (by omega))
 obtain ⟨n, hn⟩ : ∃ z, z = (cWrite a s).2.1 := ⟨_, rfl⟩
 obtain ⟨er, her⟩ : ∃ z, z = (cWrite a s).2.2 := ⟨_, rfl⟩
 obtain ⟨c1, hc1⟩ : ∃ z, z = (cWrite a s).1 := ⟨_, rfl⟩
 rw [← hn] at h1 h2 h3 h4 h5
 rw [← her] at h3
 rw [← hc1] at h5
 rw [← hn, ← her, ← hc1] at HWR
 obtain ⟨sx, hsx⟩ : ∃ z, z = s.extract 0 n.toNat := ⟨_, rfl⟩
 obtain ⟨wN, hwN⟩ : ∃ z, z = p.w0 ++ sx := ⟨_, rfl⟩
 have hsxl : sx.size ≤ 1048576 := by rw [hsx, ByteArray.size_extract]; omega
 have HLN := Lib.hid (show p.w0.size + sx.size ≤ 9223372036854775807 from by omega)
 rw [← hsx, ← hwN] at h5
 have HSX := Lib.hid hsx
 have HWN := Lib.hid hwN
 have HN1 := Lib.hid h1
 have HN2 := Lib.hid h2
 have H3 := Lib.hid h3
 have H4 := Lib.hid h4
 have H5 := Lib.hid h5
 have HKO := Lib.hid hok
 clear hn her hc1 hsx hwN hsxl h1 h2 h3 h4 h5 h6 h7 hok ht
 have tk : decide (kd < 2) = true := decide_eq_true (by omega)
 clear h
 conv => arg 2; whnf
 go_upto_region 13 with (fail)
 refine wp_region_M [0,2,4] [] hM (by kernel_rfl) ?_
 clear hM
 intro wo hM
 refine tL 0 (v := ?_) rfl ⟨fun r hr => hM.get 0 hr, fun r hr => hM.get 2 hr, fun r hr => hM.get 4 hr, trivial⟩ (Or.inl ⟨by rfl, ?hy⟩) ?_
 case hy => (rintro W ⟨i0, i2, i4, -⟩; have c0 := (show At W _ _ _ from i0 _ rfl).cell; have c2 := (show At W _ _ _ from i2 _ rfl).cell; have c4 := (show At W _ _ _ from i4 _ rfl).cell; (try simp only [prC] at c0 c2 c4); go_simp; (try with_reducible rfl))
 simp only [zz]
 refine tW 1 rfl ?_
 simp only [zz]
 refine tW 2 rfl ?_
 simp only [zz]
 refine tW 3 rfl ?_
 simp only [zz]
 refine tW 4 rfl ?_
 simp only [zz]
 refine tL 5 (v := ?_) rfl ⟨fun r hr => hM.get 0 hr, fun r hr => hM.get 2 hr, fun r hr => hM.get 4 hr, trivial⟩ (Or.inl ⟨by rfl, ?hy⟩) ?_
 case hy => (rintro W ⟨i0, i2, i4, -⟩; have c0 := (show At W _ _ _ from i0 _ rfl).cell; have c2 := (show At W _ _ _ from i2 _ rfl).cell; have c4 := (show At W _ _ _ from i4 _ rfl).cell; (try simp only [prC] at c0 c2 c4); go_simp; (try with_reducible rfl))
 simp only [zz]
 refine tW 6 rfl ?_
 simp only [zz]
 refine tL 7 (v := .string s) rfl ⟨fun r hr => hM.get 0 hr, fun r hr => hM.get 2 hr, fun r hr => hM.get 4 hr, trivial⟩ (Or.inl ⟨by rfl, ?hy⟩) ?_
 case hy => (rintro W ⟨i0, i2, i4, -⟩; have c0 := (show At W _ _ _ from i0 _ rfl).cell; have c2 := (show At W _ _ _ from i2 _ rfl).cell; have c4 := (show At W _ _ _ from i4 _ rfl).cell; (try simp only [prC] at c0 c2 c4); (go_simp; rw [HS4.out]; rfl))
 simp only [zz]
 refine wpI_one (i := 8) rfl (by kernel_rfl) ?_
 (try simp only [zz])
 go_wp2_with (first
   | go_skip
   | ((go_at_call 23; refine (HWR.out _ hM).mono ?_; clear hM; rintro e W ⟨k1, rfl, hM, hK1⟩; have HK1 := Lib.hid hK1; clear hK1; dsimp only)))
 refine contI_normal ⟨fun r hr => hM.get 0 hr, fun r hr => hM.get 2 hr, fun r hr => hM.get 4 hr, trivial⟩ ?_
 (try simp only [zz])
 refine tW 9 rfl ?_
 simp only [zz]
 refine tW 10 rfl ?_
 simp only [zz]
 refine tW 11 rfl ?_
 simp only [zz]
 refine tW 12 rfl ?_
 simp only [zz]
 refine tW 13 rfl ?_
 simp only [zz]
 refine wpI_done (by kernel_rfl) ?_ _
 (try simp only [zz])
 replace hM := (show MemX E w0 W (atR gx 40 [.pointer (some ⟨gp, 0, none⟩)] :: atR gk 3 [.int .i64 kk] :: prR gp ga gb va p :: arR va p.air :: atR gs 70 cs :: (cnH ga gia gwa c1 k1 ++ (cnH gb gib gwb b kb ++ m))) from hM)
 go_upto_region 14 with (fail)
 go_cut [95] from 67 to 95 (fun v W => v = .bool false ∧ MemX E w0 W (atR gx 40 [.pointer (some ⟨gp, 0, none⟩)] :: atR gk 3 [.int .i64 kk] :: prR gp ga gb va p :: arR va p.air :: atR gs 70 cs :: (cnH ga gia gwa c1 k1 ++ (cnH gb gib gwb b kb ++ m))))
 case first =>
  have t1 : decide (n < 0) = false := decide_eq_false (by have := HN1.out; omega)
  have t2 : decide ((s.size : Int) < n) = false := decide_eq_false (by have := HN2.out; omega)
  by_cases hp : 0 < n
  ·have t3 : decide (0 < n) = true := decide_eq_true hp
   have t4 : (er != 0) = false := by
    rcases Int.decEq er 0 with he | he
    ·exact absurd (H3.out he) (by omega)
    ·rw [he]; rfl
   have t5 : p.s0 = false := by
    cases he : p.s0 with
    | false => rfl
    | true => exact absurd (H4.out he) (by omega)
   have HF := Lib.hid (show (prC ga gb va p)[11]? = some (.bool false) from by rw [← t5]; rfl)
   clear t5 hp
   go_wp2_with (first | go_skip | ((with_reducible refine at_load_ ?_); refine at_wanted_ (by rfl) ?_; first | (refine lM 0 hM rfl rfl rfl rfl ?_)) | ((with_reducible refine at_load_ ?_); refine at_wanted_ (by rfl) ?_; refine lM 2 hM rfl rfl rfl (by first | exact HF.out | rfl) ?_) | ((with_reducible refine at_load_ ?_); refine at_wanted_ (by rfl) ?_; refine lM 4 hM rfl rfl rfl (by first | exact HS4.out | rfl) ?_))
   go_meet
   case rel => exact ⟨rfl, hM⟩
  ·have t3 : decide (0 < n) = false := decide_eq_false hp
   rcases Bool.eq_false_or_eq_true (er != 0) with t4 | t4
   ·rcases Bool.eq_false_or_eq_true p.s0 with t5 | t5
    ·have HF := Lib.hid (show (prC ga gb va p)[11]? = some (.bool true) from by rw [← t5]; rfl)
     clear t5 hp
     go_wp2_with (first | go_skip | ((with_reducible refine at_load_ ?_); refine at_wanted_ (by rfl) ?_; first | (refine lM 0 hM rfl rfl rfl rfl ?_)) | ((with_reducible refine at_load_ ?_); refine at_wanted_ (by rfl) ?_; refine lM 2 hM rfl rfl rfl (by first | exact HF.out | rfl) ?_) | ((with_reducible refine at_load_ ?_); refine at_wanted_ (by rfl) ?_; refine lM 4 hM rfl rfl rfl (by first | exact HS4.out | rfl) ?_))
     go_meet
     case rel => exact ⟨rfl, hM⟩
    ·have HF := Lib.hid (show (prC ga gb va p)[11]? = some (.bool false) from by rw [← t5]; rfl)
     clear t5 hp
     go_wp2_with (first | go_skip | ((with_reducible refine at_load_ ?_); refine at_wanted_ (by rfl) ?_; first | (refine lM 0 hM rfl rfl rfl rfl ?_)) | ((with_reducible refine at_load_ ?_); refine at_wanted_ (by rfl) ?_; refine lM 2 hM rfl rfl rfl (by first | exact HF.out | rfl) ?_) | ((with_reducible refine at_load_ ?_); refine at_wanted_ (by rfl) ?_; refine lM 4 hM rfl rfl rfl (by first | exact HS4.out | rfl) ?_))
     go_meet
     case rel => exact ⟨rfl, hM⟩
   ·rcases Bool.eq_false_or_eq_true p.s0 with t5 | t5
    ·have HF := Lib.hid (show (prC ga gb va p)[11]? = some (.bool true) from by rw [← t5]; rfl)
     clear t5 hp
     go_wp2_with (first | go_skip | ((with_reducible refine at_load_ ?_); refine at_wanted_ (by rfl) ?_; first | (refine lM 0 hM rfl rfl rfl rfl ?_)) | ((with_reducible refine at_load_ ?_); refine at_wanted_ (by rfl) ?_; refine lM 2 hM rfl rfl rfl (by first | exact HF.out | rfl) ?_) | ((with_reducible refine at_load_ ?_); refine at_wanted_ (by rfl) ?_; refine lM 4 hM rfl rfl rfl (by first | exact HS4.out | rfl) ?_))
     go_meet
     case rel => exact ⟨rfl, hM⟩
    ·have HF := Lib.hid (show (prC ga gb va p)[11]? = some (.bool false) from by rw [← t5]; rfl)
     clear t5 hp
     go_wp2_with (first | go_skip | ((with_reducible refine at_load_ ?_); refine at_wanted_ (by rfl) ?_; first | (refine lM 0 hM rfl rfl rfl rfl ?_)) | ((with_reducible refine at_load_ ?_); refine at_wanted_ (by rfl) ?_; refine lM 2 hM rfl rfl rfl (by first | exact HF.out | rfl) ?_) | ((with_reducible refine at_load_ ?_); refine at_wanted_ (by rfl) ?_; refine lM 4 hM rfl rfl rfl (by first | exact HS4.out | rfl) ?_))
     go_meet
     case rel => exact ⟨rfl, hM⟩
 case rest =>
  clear hM
  obtain ⟨rfl, hM⟩ := hcut
  go_upto_region 16 with (fail)
  refine wp_region_M [0,2,4] [14] hM (by kernel_rfl) ?_
  clear hM
  intro wo hM
  refine tL 0 (v := ?_) rfl ⟨fun r hr => hM.get 0 hr, fun r hr => hM.get 2 hr, fun r hr => hM.get 4 hr, trivial⟩ (Or.inl ⟨by rfl, ?hy⟩) ?_
  case hy => (rintro W ⟨i0, i2, i4, -⟩; have c0 := (show At W _ _ _ from i0 _ rfl).cell; have c2 := (show At W _ _ _ from i2 _ rfl).cell; have c4 := (show At W _ _ _ from i4 _ rfl).cell; (try simp only [prC] at c0 c2 c4); go_simp; (try with_reducible rfl))
  simp only [zz]
  refine tW 1 rfl ?_
  simp only [zz]
  refine tW 2 rfl ?_
  simp only [zz]
  refine tW 3 rfl ?_
  simp only [zz]
  refine tW 4 rfl ?_
  simp only [zz]
  refine tL 5 (v := ?_) rfl ⟨fun r hr => hM.get 0 hr, fun r hr => hM.get 2 hr, fun r hr => hM.get 4 hr, trivial⟩ (Or.inl ⟨by rfl, ?hy⟩) ?_
  case hy => (rintro W ⟨i0, i2, i4, -⟩; have c0 := (show At W _ _ _ from i0 _ rfl).cell; have c2 := (show At W _ _ _ from i2 _ rfl).cell; have c4 := (show At W _ _ _ from i4 _ rfl).cell; (try simp only [prC] at c0 c2 c4); go_simp; (try with_reducible rfl))
  simp only [zz]
  refine tW 6 rfl ?_
  simp only [zz]
  refine tL 7 (v := .string s) rfl ⟨fun r hr => hM.get 0 hr, fun r hr => hM.get 2 hr, fun r hr => hM.get 4 hr, trivial⟩ (Or.inl ⟨by rfl, ?hy⟩) ?_
  case hy => (rintro W ⟨i0, i2, i4, -⟩; have c0 := (show At W _ _ _ from i0 _ rfl).cell; have c2 := (show At W _ _ _ from i2 _ rfl).cell; have c4 := (show At W _ _ _ from i4 _ rfl).cell; (try simp only [prC] at c0 c2 c4); (go_simp; rw [HS4.out]; rfl))
  simp only [zz]
  refine tW 8 rfl ?_
  simp only [zz]
  refine tL 9 (v := .string sx) rfl ⟨fun r hr => hM.get 0 hr, fun r hr => hM.get 2 hr, fun r hr => hM.get 4 hr, trivial⟩ (Or.inl ⟨by rfl, ?hy⟩) ?_
  case hy => (rintro W ⟨i0, i2, i4, -⟩; have c0 := (show At W _ _ _ from i0 _ rfl).cell; have c2 := (show At W _ _ _ from i2 _ rfl).cell; have c4 := (show At W _ _ _ from i4 _ rfl).cell; (try simp only [prC] at c0 c2 c4); (go_simp; rw [if_pos ⟨HN1.out, HN2.out⟩, HSX.out]))
  simp only [zz]
  refine tL 10 (v := .string (p.w0 ++ sx)) rfl ⟨fun r hr => hM.get 0 hr, fun r hr => hM.get 2 hr, fun r hr => hM.get 4 hr, trivial⟩ (Or.inl ⟨by rfl, ?hy⟩) ?_
  case hy => (rintro W ⟨i0, i2, i4, -⟩; have c0 := (show At W _ _ _ from i0 _ rfl).cell; have c2 := (show At W _ _ _ from i2 _ rfl).cell; have c4 := (show At W _ _ _ from i4 _ rfl).cell; (try simp only [prC] at c0 c2 c4); (go_simp; exact HLN.out))
  simp only [zz]
  refine tW 11 rfl ?_
  simp only [zz]
  refine tW 12 rfl ?_
  simp only [zz]
  refine tW 13 rfl ?_
  simp only [zz]
  refine wpI_one (i := 14) rfl (by kernel_rfl) ?_
  (try simp only [zz])
  go_wp2_with (first
    | go_skip
    | (((with_reducible refine at_store_ ?_); refine sM 2 hM rfl rfl rfl ?_; clear hM; intro W hM; simp only [zF, zE, prR, pr6, pr7, pr8, pr9, pr10, pr11, pr12, pr13, pr14, pr15, pr16, pr17, pr18, pr19] at hM)))
  refine contI_late (by decide) ?_
  (try simp only [zz])
  refine wpI_done (by kernel_rfl) ?_ _
  (try simp only [zz])
  rw [← HWN.out] at hM
  first | exact hK _ _ _ _ _ _ _ _ _ _ _ _ _ _ _ _ _ _ _ _ _ _ _ _ _ _ _ _ _ _ _ _ _ _ _ _ _ _ _ _ _ _ _ _ _ _ _ _ _ _ _ _ _ _ _ _ _ _ _ _ _ _ _ _ _ _ _ _ _ _ _ _ _ _ _ _ _ _ _ _ _ _ _ _ _ _ _ _ _ _ _ _ _ _ _ _ _ _ _ _ _ _ _ _ _ _ _ _ _ _ _ _ _ _ _ _ _ _ _ _ _ _ _ _ _ _ _ _ _ _ _ _ _ _ _ _ _ _ _ _ _ _ _ _ _ _ _ _ _ _ _ _ _ _ _ _ _ _ _ _ _ _ _ _ (HRL.out _ _ _ _ _ _ _ _ _ (⟨c1, b, ({ p with w0 := wN } : KPa)⟩ : KPr) _ hM ⟨HK1.out, HKO.out.2⟩ H5.out (Nat.le_refl _)) | exact (HRL.out _ _ _ _ _ _ _ _ _ (⟨c1, b, ({ p with w0 := wN } : KPa)⟩ : KPr) _ hM ⟨HK1.out, HKO.out.2⟩ H5.out (Nat.le_refl _))
set_option maxRecDepth 100000 in
set_option maxHeartbeats 8000000 in
theorem do_write1 (h : kd = 0 ∨ kd = 1) (hi : ii = 1) : Code.wp Try.prog doSwitch (Exit.then K Q0) ⟨(u0 :: u1 :: .pointer (some ⟨gx, 0, none⟩) :: .pointer (some ⟨gs, 0, none⟩) :: u4 :: .pointer (some ⟨gk, 0, none⟩) :: .int .i64 ii :: .func (.func 58) #[] #[.pointer (some ⟨gx, 0, none⟩), .pointer (some ⟨gk, 0, none⟩)] :: .int .i64 kd :: u9 :: u10 :: u11 :: u12 :: u13 :: u14 :: u15 :: u16 :: u17 :: u18 :: u19 :: u20 :: u21 :: u22 :: u23 :: u24 :: u25 :: u26 :: u27 :: u28 :: u29 :: u30 :: u31 :: u32 :: u33 :: u34 :: u35 :: u36 :: u37 :: u38 :: u39 :: u40 :: u41 :: u42 :: u43 :: u44 :: u45 :: u46 :: u47 :: u48 :: u49 :: u50 :: u51 :: u52 :: u53 :: u54 :: u55 :: u56 :: u57 :: u58 :: u59 :: u60 :: u61 :: u62 :: u63 :: u64 :: u65 :: u66 :: u67 :: u68 :: u69 :: u70 :: u71 :: u72 :: u73 :: u74 :: u75 :: u76 :: u77 :: u78 :: u79 :: u80 :: u81 :: u82 :: u83 :: u84 :: u85 :: u86 :: u87 :: u88 :: u89 :: u90 :: u91 :: u92 :: u93 :: u94 :: u95 :: u96 :: u97 :: u98 :: u99 :: u100 :: u101 :: u102 :: u103 :: u104 :: u105 :: u106 :: u107 :: u108 :: u109 :: u110 :: u111 :: u112 :: u113 :: u114 :: u115 :: u116 :: u117 :: u118 :: u119 :: u120 :: u121 :: u122 :: u123 :: u124 :: u125 :: u126 :: u127 :: u128 :: u129 :: u130 :: u131 :: u132 :: u133 :: u134 :: u135 :: u136 :: u137 :: u138 :: u139 :: u140 :: u141 :: u142 :: u143 :: u144 :: u145 :: u146 :: u147 :: u148 :: u149 :: u150 :: u151 :: u152 :: u153 :: u154 :: u155 :: u156 :: u157 :: u158 :: u159 :: u160 :: u161 :: u162 :: u163 :: u164 :: u165 :: u166 :: u167 :: u168 :: u169 :: u170 :: u171 :: u172 :: u173 :: u174 :: u175 :: u176 :: u177 :: u178 :: u179 :: u180 :: u181 :: u182 :: u183 :: u184 :: u185 :: u186 :: u187 :: u188 :: u189 :: u190 :: u191 :: u192 :: []).toArray, []⟩ w4 := by
 subst hi
 have hP := HP.out
 obtain ⟨h1, h2, h3, h4⟩ := hP.wrote1 s
 have h5 := hP.write1 s HT.out.2
 have h6 := hP.w1z
 have h7 := hP.cb
 have hok := HOK.out
 have ht := HT.out
 dsimp only at h1 h2 h3 h4 h5 h6 h7
 clear hP
 have HRL := Lib.hid (fun (W : World) (kk' : Int) (va' : Value) (gia' gwa' : Nat) (ka' : KPt) (gib' gwb' : Nat) (kb' : KPt) (y : KPr) (N' : Nat) (h : MemX E w0 W (doM gx gk gs gp ga gb kk' va' gia' gwa' ka' gib' gwb' kb' cs y m)) (h1 : KPl.ok ⟨gp, ga, gia', gwa', ka', gb, gib', gwb', kb', va'⟩ y) (h2 : PI iss irs N' (t + 1) y) (h3 : N' ≤ N + s.size) => (⟨kk', va', gia', gwa', ka', gib', gwb', kb', y, N', h, h1, h2, h3⟩ : doRel E w0 gx gk gs gp ga gb cs m iss irs (N + s.size) (t + 1) W))
 have HWR := Lib.hid (fun (W : World) (h : MemX E w0 W (atR gx 40 [.pointer (some ⟨gp, 0, none⟩)] :: atR gk 3 [.int .i64 kk] :: prR gp ga gb va p :: arR va p.air :: atR gs 70 cs :: (cnH ga gia gwa a ka ++ (cnH gb gib gwb b kb ++ m)))) => writeF (atR gx 40 [.pointer (some ⟨gp, 0, none⟩)] :: atR gk 3 [.int .i64 kk] :: prR gp ga gb va p :: arR va p.air :: atR gs 70 cs :: cnH ga gia gwa a ka) m h hok.2 h7 (by omega) s (by omega))
 obtain ⟨n, hn⟩ : ∃ z, z = (cWrite b s).2.1 := ⟨_, rfl⟩
 obtain ⟨er, her⟩ : ∃ z, z = (cWrite b s).2.2 := ⟨_, rfl⟩
 obtain ⟨c1, hc1⟩ : ∃ z, z = (cWrite b s).1 := ⟨_, rfl⟩
 rw [← hn] at h1 h2 h3 h4 h5
 rw [← her] at h3
 rw [← hc1] at h5
 rw [← hn, ← her, ← hc1] at HWR
 obtain ⟨sx, hsx⟩ : ∃ z, z = s.extract 0 n.toNat := ⟨_, rfl⟩
 obtain ⟨wN, hwN⟩ : ∃ z, z = p.w1 ++ sx := ⟨_, rfl⟩
 have hsxl : sx.size ≤ 1048576 := by rw [hsx, ByteArray.size_extract]; omega
 have HLN := Lib.hid (show p.w1.size + sx.size ≤ 9223372036854775807 from by omega)
 rw [← hsx, ← hwN] at h5
 have HSX := Lib.hid hsx
 have HWN := Lib.hid hwN
 have HN1 := Lib.hid h1
 have HN2 := Lib.hid h2
 have H3 := Lib.hid h3
 have H4 := Lib.hid h4
 have H5 := Lib.hid h5
 have HKO := Lib.hid hok
 clear hn her hc1 hsx hwN hsxl h1 h2 h3 h4 h5 h6 h7 hok ht
 have tk : decide (kd < 2) = true := decide_eq_true (by omega)
 clear h
 conv => arg 2; whnf
 go_upto_region 13 with (fail)
 refine wp_region_M [0,2,4] [] hM (by kernel_rfl) ?_
 clear hM
 intro wo hM
 refine tL 0 (v := ?_) rfl ⟨fun r hr => hM.get 0 hr, fun r hr => hM.get 2 hr, fun r hr => hM.get 4 hr, trivial⟩ (Or.inl ⟨by rfl, ?hy⟩) ?_
 case hy => (rintro W ⟨i0, i2, i4, -⟩; have c0 := (show At W _ _ _ from i0 _ rfl).cell; have c2 := (show At W _ _ _ from i2 _ rfl).cell; have c4 := (show At W _ _ _ from i4 _ rfl).cell; (try simp only [prC] at c0 c2 c4); go_simp; (try with_reducible rfl))
 simp only [zz]
 refine tW 1 rfl ?_
 simp only [zz]
 refine tW 2 rfl ?_
 simp only [zz]
 refine tW 3 rfl ?_
 simp only [zz]
 refine tW 4 rfl ?_
 simp only [zz]
 refine tL 5 (v := ?_) rfl ⟨fun r hr => hM.get 0 hr, fun r hr => hM.get 2 hr, fun r hr => hM.get 4 hr, trivial⟩ (Or.inl ⟨by rfl, ?hy⟩) ?_
 case hy => (rintro W ⟨i0, i2, i4, -⟩; have c0 := (show At W _ _ _ from i0 _ rfl).cell; have c2 := (show At W _ _ _ from i2 _ rfl).cell; have c4 := (show At W _ _ _ from i4 _ rfl).cell; (try simp only [prC] at c0 c2 c4); go_simp; (try with_reducible rfl))
 simp only [zz]
 refine tW 6 rfl ?_
 simp only [zz]
 refine tL 7 (v := .string s) rfl ⟨fun r hr => hM.get 0 hr, fun r hr => hM.get 2 hr, fun r hr => hM.get 4 hr, trivial⟩ (Or.inl ⟨by rfl, ?hy⟩) ?_
 case hy => (rintro W ⟨i0, i2, i4, -⟩; have c0 := (show At W _ _ _ from i0 _ rfl).cell; have c2 := (show At W _ _ _ from i2 _ rfl).cell; have c4 := (show At W _ _ _ from i4 _ rfl).cell; (try simp only [prC] at c0 c2 c4); (go_simp; rw [HS4.out]; rfl))
 simp only [zz]
 refine wpI_one (i := 8) rfl (by kernel_rfl) ?_
 (try simp only [zz])
 go_wp2_with (first
   | go_skip
   | ((go_at_call 23; refine (HWR.out _ hM).mono ?_; clear hM; rintro e W ⟨k1, rfl, hM, hK1⟩; have HK1 := Lib.hid hK1; clear hK1; dsimp only)))
 refine contI_normal ⟨fun r hr => hM.get 0 hr, fun r hr => hM.get 2 hr, fun r hr => hM.get 4 hr, trivial⟩ ?_
 (try simp only [zz])
 refine tW 9 rfl ?_
 simp only [zz]
 refine tW 10 rfl ?_
 simp only [zz]
 refine tW 11 rfl ?_
 simp only [zz]
 refine tW 12 rfl ?_
 simp only [zz]
 refine tW 13 rfl ?_
 simp only [zz]
 refine wpI_done (by kernel_rfl) ?_ _
 (try simp only [zz])
 replace hM := (show MemX E w0 W (atR gx 40 [.pointer (some ⟨gp, 0, none⟩)] :: atR gk 3 [.int .i64 kk] :: prR gp ga gb va p :: arR va p.air :: atR gs 70 cs :: (cnH ga gia gwa a ka ++ (cnH gb gib gwb c1 k1 ++ m))) from hM)
 go_upto_region 14 with (fail)
 go_cut [95] from 67 to 95 (fun v W => v = .bool false ∧ MemX E w0 W (atR gx 40 [.pointer (some ⟨gp, 0, none⟩)] :: atR gk 3 [.int .i64 kk] :: prR gp ga gb va p :: arR va p.air :: atR gs 70 cs :: (cnH ga gia gwa a ka ++ (cnH gb gib gwb c1 k1 ++ m))))
 case first =>
  have t1 : decide (n < 0) = false := decide_eq_false (by have := HN1.out; omega)
  have t2 : decide ((s.size : Int) < n) = false := decide_eq_false (by have := HN2.out; omega)
  by_cases hp : 0 < n
  ·have t3 : decide (0 < n) = true := decide_eq_true hp
   have t4 : (er != 0) = false := by
    rcases Int.decEq er 0 with he | he
    ·exact absurd (H3.out he) (by omega)
    ·rw [he]; rfl
   have t5 : p.s1 = false := by
    cases he : p.s1 with
    | false => rfl
    | true => exact absurd (H4.out he) (by omega)
   have HF := Lib.hid (show (prC ga gb va p)[12]? = some (.bool false) from by rw [← t5]; rfl)
   clear t5 hp
   go_wp2_with (first | go_skip | ((with_reducible refine at_load_ ?_); refine at_wanted_ (by rfl) ?_; first | (refine lM 0 hM rfl rfl rfl rfl ?_)) | ((with_reducible refine at_load_ ?_); refine at_wanted_ (by rfl) ?_; refine lM 2 hM rfl rfl rfl (by first | exact HF.out | rfl) ?_) | ((with_reducible refine at_load_ ?_); refine at_wanted_ (by rfl) ?_; refine lM 4 hM rfl rfl rfl (by first | exact HS4.out | rfl) ?_))
   go_meet
   case rel => exact ⟨rfl, hM⟩
  ·have t3 : decide (0 < n) = false := decide_eq_false hp
   rcases Bool.eq_false_or_eq_true (er != 0) with t4 | t4
   ·rcases Bool.eq_false_or_eq_true p.s1 with t5 | t5
    ·have HF := Lib.hid (show (prC ga gb va p)[12]? = some (.bool true) from by rw [← t5]; rfl)
     clear t5 hp
     go_wp2_with (first | go_skip | ((with_reducible refine at_load_ ?_); refine at_wanted_ (by rfl) ?_; first | (refine lM 0 hM rfl rfl rfl rfl ?_)) | ((with_reducible refine at_load_ ?_); refine at_wanted_ (by rfl) ?_; refine lM 2 hM rfl rfl rfl (by first | exact HF.out | rfl) ?_) | ((with_reducible refine at_load_ ?_); refine at_wanted_ (by rfl) ?_; refine lM 4 hM rfl rfl rfl (by first | exact HS4.out | rfl) ?_))
     go_meet
     case rel => exact ⟨rfl, hM⟩
    ·have HF := Lib.hid (show (prC ga gb va p)[12]? = some (.bool false) from by rw [← t5]; rfl)
     clear t5 hp
     go_wp2_with (first | go_skip | ((with_reducible refine at_load_ ?_); refine at_wanted_ (by rfl) ?_; first | (refine lM 0 hM rfl rfl rfl rfl ?_)) | ((with_reducible refine at_load_ ?_); refine at_wanted_ (by rfl) ?_; refine lM 2 hM rfl rfl rfl (by first | exact HF.out | rfl) ?_) | ((with_reducible refine at_load_ ?_); refine at_wanted_ (by rfl) ?_; refine lM 4 hM rfl rfl rfl (by first | exact HS4.out | rfl) ?_))
     go_meet
     case rel => exact ⟨rfl, hM⟩
   ·rcases Bool.eq_false_or_eq_true p.s1 with t5 | t5
    ·have HF := Lib.hid (show (prC ga gb va p)[12]? = some (.bool true) from by rw [← t5]; rfl)
     clear t5 hp
     go_wp2_with (first | go_skip | ((with_reducible refine at_load_ ?_); refine at_wanted_ (by rfl) ?_; first | (refine lM 0 hM rfl rfl rfl rfl ?_)) | ((with_reducible refine at_load_ ?_); refine at_wanted_ (by rfl) ?_; refine lM 2 hM rfl rfl rfl (by first | exact HF.out | rfl) ?_) | ((with_reducible refine at_load_ ?_); refine at_wanted_ (by rfl) ?_; refine lM 4 hM rfl rfl rfl (by first | exact HS4.out | rfl) ?_))
     go_meet
     case rel => exact ⟨rfl, hM⟩
    ·have HF := Lib.hid (show (prC ga gb va p)[12]? = some (.bool false) from by rw [← t5]; rfl)
     clear t5 hp
     go_wp2_with (first | go_skip | ((with_reducible refine at_load_ ?_); refine at_wanted_ (by rfl) ?_; first | (refine lM 0 hM rfl rfl rfl rfl ?_)) | ((with_reducible refine at_load_ ?_); refine at_wanted_ (by rfl) ?_; refine lM 2 hM rfl rfl rfl (by first | exact HF.out | rfl) ?_) | ((with_reducible refine at_load_ ?_); refine at_wanted_ (by rfl) ?_; refine lM 4 hM rfl rfl rfl (by first | exact HS4.out | rfl) ?_))
     go_meet
     case rel => exact ⟨rfl, hM⟩
 case rest =>
  clear hM
  obtain ⟨rfl, hM⟩ := hcut
  go_upto_region 16 with (fail)
  refine wp_region_M [0,2,4] [14] hM (by kernel_rfl) ?_
  clear hM
  intro wo hM
  refine tL 0 (v := ?_) rfl ⟨fun r hr => hM.get 0 hr, fun r hr => hM.get 2 hr, fun r hr => hM.get 4 hr, trivial⟩ (Or.inl ⟨by rfl, ?hy⟩) ?_
  case hy => (rintro W ⟨i0, i2, i4, -⟩; have c0 := (show At W _ _ _ from i0 _ rfl).cell; have c2 := (show At W _ _ _ from i2 _ rfl).cell; have c4 := (show At W _ _ _ from i4 _ rfl).cell; (try simp only [prC] at c0 c2 c4); go_simp; (try with_reducible rfl))
  simp only [zz]
  refine tW 1 rfl ?_
  simp only [zz]
  refine tW 2 rfl ?_
  simp only [zz]
  refine tW 3 rfl ?_
  simp only [zz]
  refine tW 4 rfl ?_
  simp only [zz]
  refine tL 5 (v := ?_) rfl ⟨fun r hr => hM.get 0 hr, fun r hr => hM.get 2 hr, fun r hr => hM.get 4 hr, trivial⟩ (Or.inl ⟨by rfl, ?hy⟩) ?_
  case hy => (rintro W ⟨i0, i2, i4, -⟩; have c0 := (show At W _ _ _ from i0 _ rfl).cell; have c2 := (show At W _ _ _ from i2 _ rfl).cell; have c4 := (show At W _ _ _ from i4 _ rfl).cell; (try simp only [prC] at c0 c2 c4); go_simp; (try with_reducible rfl))
  simp only [zz]
  refine tW 6 rfl ?_
  simp only [zz]
  refine tL 7 (v := .string s) rfl ⟨fun r hr => hM.get 0 hr, fun r hr => hM.get 2 hr, fun r hr => hM.get 4 hr, trivial⟩ (Or.inl ⟨by rfl, ?hy⟩) ?_
  case hy => (rintro W ⟨i0, i2, i4, -⟩; have c0 := (show At W _ _ _ from i0 _ rfl).cell; have c2 := (show At W _ _ _ from i2 _ rfl).cell; have c4 := (show At W _ _ _ from i4 _ rfl).cell; (try simp only [prC] at c0 c2 c4); (go_simp; rw [HS4.out]; rfl))
  simp only [zz]
  refine tW 8 rfl ?_
  simp only [zz]
  refine tL 9 (v := .string sx) rfl ⟨fun r hr => hM.get 0 hr, fun r hr => hM.get 2 hr, fun r hr => hM.get 4 hr, trivial⟩ (Or.inl ⟨by rfl, ?hy⟩) ?_
  case hy => (rintro W ⟨i0, i2, i4, -⟩; have c0 := (show At W _ _ _ from i0 _ rfl).cell; have c2 := (show At W _ _ _ from i2 _ rfl).cell; have c4 := (show At W _ _ _ from i4 _ rfl).cell; (try simp only [prC] at c0 c2 c4); (go_simp; rw [if_pos ⟨HN1.out, HN2.out⟩, HSX.out]))
  simp only [zz]
  refine tL 10 (v := .string (p.w1 ++ sx)) rfl ⟨fun r hr => hM.get 0 hr, fun r hr => hM.get 2 hr, fun r hr => hM.get 4 hr, trivial⟩ (Or.inl ⟨by rfl, ?hy⟩) ?_
  case hy => (rintro W ⟨i0, i2, i4, -⟩; have c0 := (show At W _ _ _ from i0 _ rfl).cell; have c2 := (show At W _ _ _ from i2 _ rfl).cell; have c4 := (show At W _ _ _ from i4 _ rfl).cell; (try simp only [prC] at c0 c2 c4); (go_simp; exact HLN.out))
  simp only [zz]
  refine tW 11 rfl ?_
  simp only [zz]
  refine tW 12 rfl ?_
  simp only [zz]
  refine tW 13 rfl ?_
  simp only [zz]
  refine wpI_one (i := 14) rfl (by kernel_rfl) ?_
  (try simp only [zz])
  go_wp2_with (first
    | go_skip
    | (((with_reducible refine at_store_ ?_); refine sM 2 hM rfl rfl rfl ?_; clear hM; intro W hM; simp only [zF, zE, prR, pr6, pr7, pr8, pr9, pr10, pr11, pr12, pr13, pr14, pr15, pr16, pr17, pr18, pr19] at hM)))
  refine contI_late (by decide) ?_
  (try simp only [zz])
  refine wpI_done (by kernel_rfl) ?_ _
  (try simp only [zz])
  rw [← HWN.out] at hM
  first | exact hK _ _ _ _ _ _ _ _ _ _ _ _ _ _ _ _ _ _ _ _ _ _ _ _ _ _ _ _ _ _ _ _ _ _ _ _ _ _ _ _ _ _ _ _ _ _ _ _ _ _ _ _ _ _ _ _ _ _ _ _ _ _ _ _ _ _ _ _ _ _ _ _ _ _ _ _ _ _ _ _ _ _ _ _ _ _ _ _ _ _ _ _ _ _ _ _ _ _ _ _ _ _ _ _ _ _ _ _ _ _ _ _ _ _ _ _ _ _ _ _ _ _ _ _ _ _ _ _ _ _ _ _ _ _ _ _ _ _ _ _ _ _ _ _ _ _ _ _ _ _ _ _ _ _ _ _ _ _ _ _ _ _ _ _ (HRL.out _ _ _ _ _ _ _ _ _ (⟨a, c1, ({ p with w1 := wN } : KPa)⟩ : KPr) _ hM ⟨HKO.out.1, HK1.out⟩ H5.out (Nat.le_refl _)) | exact (HRL.out _ _ _ _ _ _ _ _ _ (⟨a, c1, ({ p with w1 := wN } : KPa)⟩ : KPr) _ hM ⟨HKO.out.1, HK1.out⟩ H5.out (Nat.le_refl _))
end
end Go.Proofs.Ytfpifahkpkjfgaa
