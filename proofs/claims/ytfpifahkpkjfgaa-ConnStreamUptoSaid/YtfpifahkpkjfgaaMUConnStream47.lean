/- What UConnStream needs, a part: CnDe. -/
import Derived.Deep.CutBlock
import Derived.Test.YtfpifahkpkjfgaaMZ
import Derived.Test.YtfpifahkpkjfgaaMUConnStream46
/- conn: does: a segment comes. Written by my gencn.py. -/
namespace Go.Proofs.Ytfpifahkpkjfgaa
open Go.RowKit Go.Lib
set_option linter.unusedVariables false
set_option linter.unusedSimpArgs false
set_option linter.unusedSectionVars false
set_option maxRecDepth 100000
section
variable {u0 u1 u4 u9 u10 u11 u12 u13 u14 u15 u16 u17 u18 u19 u20 u21 u22 u23 u24 u25 u26 u27 u28 u29 u30 u31 u32 u33 u34 u35 u36 u37 u38 u39 u40 u41 u42 u43 u44 u45 u46 u47 u48 u49 u50 u51 u52 u53 u54 u55 u56 u57 u58 u59 u60 u61 u62 u63 u64 u65 u66 u67 u68 u69 u70 u71 u72 u73 u74 u75 u76 u77 u78 u79 u80 u81 u82 u83 u84 u85 u86 u87 u88 u89 u90 u91 u92 u93 u94 u95 u96 u97 u98 u99 u100 u101 u102 u103 u104 u105 u106 u107 u108 u109 u110 u111 u112 u113 u114 u115 u116 u117 u118 u119 u120 u121 u122 u123 u124 u125 u126 u127 u128 u129 u130 u131 u132 u133 u134 u135 u136 u137 u138 u139 u140 u141 u142 u143 u144 u145 u146 u147 u148 u149 u150 u151 u152 u153 u154 u155 u156 u157 u158 u159 u160 u161 u162 u163 u164 u165 u166 u167 u168 u169 u170 u171 u172 u173 u174 u175 u176 u177 u178 u179 u180 u181 u182 u183 u184 u185 u186 u187 u188 u189 u190 u191 u192 : Value} {E : Nat → Prop} {w0 w4 : World} (gx gk gs gp ga gb : Nat) (kk : Int) (va : Value) (gia gwa : Nat) (ka : KPt) (gib gwb : Nat) (kb : KPt) (cs : List Value) (a b : KCn) (p : KPa) (m : List Res) {iss irs t : Int} {N : Nat} (ii kd xb : Int) (s : ByteArray) (K : Act → World → Prop) (Q0 : Exit → Act → World → Prop)
 (hM : MemX E w0 w4 (atR gx 40 [.pointer (some ⟨gp, 0, none⟩)] :: atR gk 3 [.int .i64 kk] :: prR gp ga gb va p :: arR va p.air :: atR gs 70 cs :: (cnH ga gia gwa a ka ++ (cnH gb gib gwb b kb ++ m)))) (HP : Hid (PI iss irs N t ⟨a, b, p⟩)) (HOK : Hid (KOk ka gia gwa a.h ∧ KOk kb gib gwb b.h)) (HB : Hid (cs[2]? = some (.int .i64 xb) ∧ -9223372036854775808 ≤ xb ∧ xb ≤ 9223372036854775807)) (HS4 : Hid (cs[4]? = some (.string s))) (HT : Hid (t ≤ 100000000 ∧ N + s.size ≤ 1048576))
 (HQ0 : Hid (∀ c d v a w, Q0 (.panic c) (Act.put a d v) w → Q0 (.panic c) a w))
 (hK : ∀ (v4 v9 v10 v11 v12 v13 v34 v35 v36 v37 v38 v39 v40 v41 v42 v43 v44 v45 v46 v47 v48 v49 v50 v51 v52 v53 v54 v55 v56 v57 v58 v59 v60 v61 v62 v63 v64 v65 v66 v67 v68 v69 v70 v71 v72 v73 v74 v75 v76 v77 v78 v79 v80 v81 v82 v83 v84 v85 v86 v87 v88 v89 v90 v91 v92 v93 v94 v95 v96 v97 v98 v99 v100 v101 v102 v103 v104 v105 v106 v107 v108 v109 v110 v111 v112 v113 v114 v115 v116 v117 v118 v119 v120 v121 v122 v123 v124 v125 v126 v127 v128 v129 v130 v131 v132 v133 v134 v135 v136 v137 v138 v139 v140 v141 v142 v143 v144 v145 v146 v147 v148 v149 v150 v151 v152 v153 v154 v155 v156 v157 v158 v159 v160 v161 v162 v163 v164 v165 v166 v167 v168 v169 v170 v171 v172 v173 v174 v175 v176 v177 v178 v179 v180 v181 v182 v183 v184 v185 v186 v187 v188 v189 v190 : Value) (W : World), doRel E w0 gx gk gs gp ga gb cs m iss irs (N + s.size) (t + 1) W → K ⟨(u0 :: u1 :: .pointer (some ⟨gx, 0, none⟩) :: .pointer (some ⟨gs, 0, none⟩) :: v4 :: .pointer (some ⟨gk, 0, none⟩) :: .int .i64 ii :: .func (.func 58) #[] #[.pointer (some ⟨gx, 0, none⟩), .pointer (some ⟨gk, 0, none⟩)] :: .int .i64 kd :: v9 :: v10 :: v11 :: v12 :: v13 :: u14 :: u15 :: u16 :: u17 :: u18 :: u19 :: u20 :: u21 :: u22 :: u23 :: u24 :: u25 :: u26 :: u27 :: u28 :: u29 :: u30 :: u31 :: u32 :: u33 :: v34 :: v35 :: v36 :: v37 :: v38 :: v39 :: v40 :: v41 :: v42 :: v43 :: v44 :: v45 :: v46 :: v47 :: v48 :: v49 :: v50 :: v51 :: v52 :: v53 :: v54 :: v55 :: v56 :: v57 :: v58 :: v59 :: v60 :: v61 :: v62 :: v63 :: v64 :: v65 :: v66 :: v67 :: v68 :: v69 :: v70 :: v71 :: v72 :: v73 :: v74 :: v75 :: v76 :: v77 :: v78 :: v79 :: v80 :: v81 :: v82 :: v83 :: v84 :: v85 :: v86 :: v87 :: v88 :: v89 :: v90 :: v91 :: v92 :: v93 :: v94 :: v95 :: v96 :: v97 :: v98 :: v99 :: v100 :: v101 :: v102 :: v103 :: v104 :: v105 :: v106 :: v107 :: v108 :: v109 :: v110 :: v111 :: v112 :: v113 :: v114 :: v115 :: v116 :: v117 :: v118 :: v119 :: v120 :: v121 :: v122 :: v123 :: v124 :: v125 :: v126 :: v127 :: v128 :: v129 :: v130 :: v131 :: v132 :: v133 :: v134 :: v135 :: v136 :: v137 :: v138 :: v139 :: v140 :: v141 :: v142 :: v143 :: v144 :: v145 :: v146 :: v147 :: v148 :: v149 :: v150 :: v151 :: v152 :: v153 :: v154 :: v155 :: v156 :: v157 :: v158 :: v159 :: v160 :: v161 :: v162 :: v163 :: v164 :: v165 :: v166 :: v167 :: v168 :: v169 :: v170 :: v171 :: v172 :: v173 :: v174 :: v175 :: v176 :: v177 :: v178 :: v179 :: v180 :: v181 :: v182 :: v183 :: v184 :: v185 :: v186 :: v187 :: v188 :: v189 :: v190 :: u191 :: u192 :: []).toArray, []⟩ W)
include hM HP HOK HB HS4 HT HQ0 hK
set_option maxRecDepth 100000 in
set_option maxHeartbeats 8000000 in
theorem do_come0 (h : 8 ≤ kd) (k : Nat) (g : KSeg) (hkk : kk = k) (hg : p.air[k]? = some g) (hto : ¬ (g.ta = 2 ∧ g.tp = 80)) : Code.wp Try.prog doSwitch (Exit.then K Q0) ⟨(u0 :: u1 :: .pointer (some ⟨gx, 0, none⟩) :: .pointer (some ⟨gs, 0, none⟩) :: u4 :: .pointer (some ⟨gk, 0, none⟩) :: .int .i64 ii :: .func (.func 58) #[] #[.pointer (some ⟨gx, 0, none⟩), .pointer (some ⟨gk, 0, none⟩)] :: .int .i64 kd :: u9 :: u10 :: u11 :: u12 :: u13 :: u14 :: u15 :: u16 :: u17 :: u18 :: u19 :: u20 :: u21 :: u22 :: u23 :: u24 :: u25 :: u26 :: u27 :: u28 :: u29 :: u30 :: u31 :: u32 :: u33 :: u34 :: u35 :: u36 :: u37 :: u38 :: u39 :: u40 :: u41 :: u42 :: u43 :: u44 :: u45 :: u46 :: u47 :: u48 :: u49 :: u50 :: u51 :: u52 :: u53 :: u54 :: u55 :: u56 :: u57 :: u58 :: u59 :: u60 :: u61 :: u62 :: u63 :: u64 :: u65 :: u66 :: u67 :: u68 :: u69 :: u70 :: u71 :: u72 :: u73 :: u74 :: u75 :: u76 :: u77 :: u78 :: u79 :: u80 :: u81 :: u82 :: u83 :: u84 :: u85 :: u86 :: u87 :: u88 :: u89 :: u90 :: u91 :: u92 :: u93 :: u94 :: u95 :: u96 :: u97 :: u98 :: u99 :: u100 :: u101 :: u102 :: u103 :: u104 :: u105 :: u106 :: u107 :: u108 :: u109 :: u110 :: u111 :: u112 :: u113 :: u114 :: u115 :: u116 :: u117 :: u118 :: u119 :: u120 :: u121 :: u122 :: u123 :: u124 :: u125 :: u126 :: u127 :: u128 :: u129 :: u130 :: u131 :: u132 :: u133 :: u134 :: u135 :: u136 :: u137 :: u138 :: u139 :: u140 :: u141 :: u142 :: u143 :: u144 :: u145 :: u146 :: u147 :: u148 :: u149 :: u150 :: u151 :: u152 :: u153 :: u154 :: u155 :: u156 :: u157 :: u158 :: u159 :: u160 :: u161 :: u162 :: u163 :: u164 :: u165 :: u166 :: u167 :: u168 :: u169 :: u170 :: u171 :: u172 :: u173 :: u174 :: u175 :: u176 :: u177 :: u178 :: u179 :: u180 :: u181 :: u182 :: u183 :: u184 :: u185 :: u186 :: u187 :: u188 :: u189 :: u190 :: u191 :: u192 :: []).toArray, []⟩ w4 := by
 subst hkk
 have hP := HP.out
 have ht := HT.out
 have hlen := hP.len
 have hlt : k < p.air.length := (List.getElem?_eq_some_iff.1 hg).1
 (try dsimp only at hlen)
 have HRL := Lib.hid (fun (W : World) (kk' : Int) (va' : Value) (gia' gwa' : Nat) (ka' : KPt) (gib' gwb' : Nat) (kb' : KPt) (y : KPr) (N' : Nat) (h : MemX E w0 W (doM gx gk gs gp ga gb kk' va' gia' gwa' ka' gib' gwb' kb' cs y m)) (h1 : KPl.ok ⟨gp, ga, gia', gwa', ka', gb, gib', gwb', kb', va'⟩ y) (h2 : PI iss irs N' (t + 1) y) (h3 : N' ≤ N + s.size) => (⟨kk', va', gia', gwa', ka', gib', gwb', kb', y, N', h, h1, h2, h3⟩ : doRel E w0 gx gk gs gp ga gb cs m iss irs (N + s.size) (t + 1) W))
 have h4 := hP.come (List.mem_of_getElem? hg) (by omega)
 have h5 := h4.few (l := p.air.eraseIdx k) (fun x hx => (come_air ⟨a, b, p⟩ g).symm ▸ List.mem_of_mem_eraseIdx hx) (by rw [List.length_eraseIdx_of_lt hlt]; omega)
 rw [show come ⟨a, b, p⟩ g = ⟨cIn a g, b, p⟩ from by unfold come; rw [if_neg hto]] at h5
 dsimp only at h5
 have ha := hP.ca
 have hok := HOK.out
 have hsg : SegOk g := by obtain ⟨_, _, hx⟩ := hP.h; exact PH.aok hx g (List.mem_of_getElem? hg)
 dsimp only at ha
 obtain ⟨c1, hc1⟩ : ∃ z, z = cIn a g := ⟨_, rfl⟩
 have HIN := Lib.hid (fun (W : World) (v1 : Value) (gg : Nat) (h : MemX E w0 W (atR gg 33 (cSeg g) :: (atR gx 40 [.pointer (some ⟨gp, 0, none⟩)] :: atR gk 3 [.int .i64 k] :: prR gp ga gb v1 ({ p with air := p.air.eraseIdx k } : KPa) :: arR v1 ({ p with air := p.air.eraseIdx k } : KPa).air :: atR gs 70 cs :: (cnH ga gia gwa a ka ++ (cnH gb gib gwb b kb ++ m))))) => (by
  have h2 := inF (atR gg 33 (cSeg g) :: [atR gx 40 [.pointer (some ⟨gp, 0, none⟩)], atR gk 3 [.int .i64 k], prR gp ga gb v1 ({ p with air := p.air.eraseIdx k } : KPa), arR v1 ({ p with air := p.air.eraseIdx k } : KPa).air, atR gs 70 cs]) (cnH gb gib gwb b kb ++ m) h hok.1 ha (by omega) g hsg
  rw [← hc1] at h2
  exact h2 : Calls Try.prog 19 #[.pointer (some ⟨ga, 0, none⟩), .agg (cSeg g).toArray] W fun e W' => ∃ gi' gw' k', e = .returned (.int .i64 (cInE a g)) ∧ MemX E w0 W' (atR gg 33 (cSeg g) :: (atR gx 40 [.pointer (some ⟨gp, 0, none⟩)] :: atR gk 3 [.int .i64 k] :: prR gp ga gb v1 ({ p with air := p.air.eraseIdx k } : KPa) :: arR v1 ({ p with air := p.air.eraseIdx k } : KPa).air :: atR gs 70 cs :: (cnH ga gi' gw' c1 k' ++ (cnH gb gib gwb b kb ++ m)))) ∧ KOk k' gi' gw' c1.h))
 rw [← hc1] at h5
 have H5 := Lib.hid h5
 have HKO := Lib.hid hok
 obtain ⟨ie, hie⟩ : ∃ z, z = cInE a g := ⟨_, rfl⟩
 rw [← hie] at HIN
 obtain ⟨Aa, qa, hva⟩ := (hM.row (f := cSeg) (rs := p.air) 3 rfl).form
 obtain ⟨na, hna⟩ : ∃ z, z = p.air.length := ⟨_, rfl⟩
 rw [← hna] at hva
 subst hva
 have HNA := Lib.hid hna
 have HTK := Lib.hid (fun (W : World) (h : MemX E w0 W (atR gx 40 [.pointer (some ⟨gp, 0, none⟩)] :: atR gk 3 [.int .i64 k] :: prR gp ga gb (.slice Aa na qa) p :: arR (.slice Aa na qa) p.air :: atR gs 70 cs :: (cnH ga gia gwa a ka ++ (cnH gb gib gwb b kb ++ m)))) => take_any gx gk gp ga gb (.slice Aa na qa) p k g (atR gs 70 cs :: (cnH ga gia gwa a ka ++ (cnH gb gib gwb b kb ++ m))) W h hg (by omega))
 have HEQ := Lib.hid (fun W => (by have h := eqB_End g.ta g.tp 2 80 W; rw [decide_eq_false hto] at h; exact h : (Op.equalIn 10000 29 (.agg #[.int .u32 g.ta, .int .i64 g.tp]) (.agg #[.int .u32 2, .int .i64 80])).run Try.prog W = .ok false W))
 have tk : decide (kd < 2) = false := decide_eq_false (by omega)
 have tk2 : (kd == 2) = false := by simp; omega
 have tk3 : (kd == 3) = false := by simp; omega
 have tk6 : decide (kd < 6) = false := decide_eq_false (by omega)
 have tl : ((na : Int) == 0) = false := by simp; omega
 have tk4 : (kd == 6) = false := by simp; omega
 have tk5 : (kd == 7) = false := by simp; omega
 clear h
 clear hP ht hlen hlt h4 h5 hna hg hto ha hok hsg hc1 hie
 conv => arg 2; whnf
 go_upto_region 9 with (first | go_skip | ((with_reducible refine at_load_ ?_); refine at_wanted_ (by rfl) ?_; first | (refine lM 0 hM rfl rfl rfl rfl ?_) | (refine lM 2 hM rfl rfl rfl rfl ?_)) | (go_at_call 58; refine (HTK.out _ hM).mono ?_; clear hM; rintro e W ⟨rfl, v1, hM⟩; dsimp only) | ((with_reducible refine at_alloc_ (T := 33) ?_); refine wpList_alloc_mem rfl 33 rfl _ zv_Seg _ rfl hM ?_; clear hM; intro gg W hM; replace hM := cn_last hM) | ((with_reducible refine at_store_ (T := 33) ?_); refine wpList_store_mem rfl 33 _ _ rfl 0 _ _ _ (cSeg g) hM rfl rfl rfl rfl sz_Seg rfl ?_; clear hM; intro W hM; simp only [List.cons_append, zE] at hM))
 refine wp_region_M [0,1,3] [] hM (by kernel_rfl) ?_
 clear hM
 intro wo hM
 refine tW 0 rfl ?_
 simp only [zz]
 refine tL 1 (v := .agg #[.int .u32 g.ta, .int .i64 g.tp]) rfl ⟨fun r hr => hM.get 0 hr, fun r hr => hM.get 1 hr, fun r hr => hM.get 3 hr, trivial⟩ (Or.inl ⟨by rfl, ?hy⟩) ?_
 case hy => (rintro W ⟨i0, i1, i3, -⟩; have c0 := (show At W _ _ _ from i0 _ rfl).cell; have c1 := (show At W _ _ _ from i1 _ rfl).cell; have c3 := (show At W _ _ _ from i3 _ rfl).cell; (try simp only [cSeg,prC] at c0 c1 c3); exact exec_loadw _ _ rfl gg 2 rfl [.int .u32 g.ta, .int .i64 g.tp] _ Try.underlying29 rfl sz_End (range_sub (cs := cSeg g) c0 2 _ rfl))
 simp only [zz]
 refine tL 2 (v := ?_) rfl ⟨fun r hr => hM.get 0 hr, fun r hr => hM.get 1 hr, fun r hr => hM.get 3 hr, trivial⟩ (Or.inl ⟨by rfl, ?hy⟩) ?_
 case hy => (rintro W ⟨i0, i1, i3, -⟩; have c0 := (show At W _ _ _ from i0 _ rfl).cell; have c1 := (show At W _ _ _ from i1 _ rfl).cell; have c3 := (show At W _ _ _ from i3 _ rfl).cell; (try simp only [cSeg,prC] at c0 c1 c3); go_simp; (try with_reducible rfl))
 simp only [zz]
 refine tW 3 rfl ?_
 simp only [zz]
 refine tW 4 rfl ?_
 simp only [zz]
 refine tW 5 rfl ?_
 simp only [zz]
 refine tL 6 (v := .agg #[.int .u32 2, .int .i64 80]) rfl ⟨fun r hr => hM.get 0 hr, fun r hr => hM.get 1 hr, fun r hr => hM.get 3 hr, trivial⟩ (Or.inl ⟨by rfl, ?hy⟩) ?_
 case hy => (rintro W ⟨i0, i1, i3, -⟩; have c0 := (show At W _ _ _ from i0 _ rfl).cell; have c1 := (show At W _ _ _ from i1 _ rfl).cell; have c3 := (show At W _ _ _ from i3 _ rfl).cell; (try simp only [cSeg,prC] at c0 c1 c3); exact exec_loadw _ _ rfl gp 4 rfl [.int .u32 2, .int .i64 80] _ Try.underlying29 rfl sz_End (range_sub (cs := prC ga gb v1 ({ p with air := p.air.eraseIdx k } : KPa)) c3 4 _ rfl))
 simp only [zz]
 refine tY 7 rfl ((.inl ⟨by rfl, fun w => exec_eqs _ _ _ _ rfl _ _ rfl rfl eg_End _ HEQ.out w⟩)) ?_
 simp only [zz]
 (try simp only [Bool.not_true, Bool.not_false])
 refine wpI_done (by kernel_rfl) ?_ _
 (try simp only [zz])
 go_upto_region 11 with (fail)
 refine wp_region_M [0,1,3] [] hM (by kernel_rfl) ?_
 clear hM
 intro wo hM
 refine tL 0 (v := ?_) rfl ⟨fun r hr => hM.get 0 hr, fun r hr => hM.get 1 hr, fun r hr => hM.get 3 hr, trivial⟩ (Or.inl ⟨by rfl, ?hy⟩) ?_
 case hy => (rintro W ⟨i0, i1, i3, -⟩; have c0 := (show At W _ _ _ from i0 _ rfl).cell; have c1 := (show At W _ _ _ from i1 _ rfl).cell; have c3 := (show At W _ _ _ from i3 _ rfl).cell; (try simp only [cSeg,prC] at c0 c1 c3); go_simp; (try with_reducible rfl))
 simp only [zz]
 refine tW 1 rfl ?_
 simp only [zz]
 refine tW 2 rfl ?_
 simp only [zz]
 refine tW 3 rfl ?_
 simp only [zz]
 refine tW 4 rfl ?_
 simp only [zz]
 refine tL 5 (v := ?_) rfl ⟨fun r hr => hM.get 0 hr, fun r hr => hM.get 1 hr, fun r hr => hM.get 3 hr, trivial⟩ (Or.inl ⟨by rfl, ?hy⟩) ?_
 case hy => (rintro W ⟨i0, i1, i3, -⟩; have c0 := (show At W _ _ _ from i0 _ rfl).cell; have c1 := (show At W _ _ _ from i1 _ rfl).cell; have c3 := (show At W _ _ _ from i3 _ rfl).cell; (try simp only [cSeg,prC] at c0 c1 c3); go_simp; (try with_reducible rfl))
 simp only [zz]
 refine tL 6 (v := .agg (cSeg g).toArray) rfl ⟨fun r hr => hM.get 0 hr, fun r hr => hM.get 1 hr, fun r hr => hM.get 3 hr, trivial⟩ (Or.inl ⟨by rfl, ?hy⟩) ?_
 case hy => (rintro W ⟨i0, i1, i3, -⟩; have c0 := (show At W _ _ _ from i0 _ rfl).cell; have c1 := (show At W _ _ _ from i1 _ rfl).cell; have c3 := (show At W _ _ _ from i3 _ rfl).cell; (try simp only [cSeg,prC] at c0 c1 c3); exact exec_loadw _ _ rfl gg 0 rfl (cSeg g) _ Try.underlying33 rfl sz_Seg (range_cells c0))
 simp only [zz]
 refine wpI_one (i := 7) rfl (by kernel_rfl) ?_
 (try simp only [zz])
 go_wp2_with (first
   | go_skip
   | ((go_at_call 19; refine (HIN.out _ _ gg hM).mono ?_; clear hM; rintro e W ⟨gi4, gw4, k4, rfl, hM, hK⟩; have HK4 := Lib.hid hK; clear hK; dsimp only)))
 refine contI_normal ⟨fun r hr => hM.get 0 hr, fun r hr => hM.get 1 hr, fun r hr => hM.get 3 hr, trivial⟩ ?_
 (try simp only [zz])
 refine wpI_done (by kernel_rfl) ?_ _
 (try simp only [zz])
 replace hM := (show MemX E w0 W ([_] ++ _) from hM).drop_
 first | exact hK _ _ _ _ _ _ _ _ _ _ _ _ _ _ _ _ _ _ _ _ _ _ _ _ _ _ _ _ _ _ _ _ _ _ _ _ _ _ _ _ _ _ _ _ _ _ _ _ _ _ _ _ _ _ _ _ _ _ _ _ _ _ _ _ _ _ _ _ _ _ _ _ _ _ _ _ _ _ _ _ _ _ _ _ _ _ _ _ _ _ _ _ _ _ _ _ _ _ _ _ _ _ _ _ _ _ _ _ _ _ _ _ _ _ _ _ _ _ _ _ _ _ _ _ _ _ _ _ _ _ _ _ _ _ _ _ _ _ _ _ _ _ _ _ _ _ _ _ _ _ _ _ _ _ _ _ _ _ _ _ _ _ _ _ (HRL.out _ _ _ _ _ _ _ _ _ (⟨c1, b, ({ p with air := p.air.eraseIdx k } : KPa)⟩ : KPr) _ hM ⟨HK4.out, HKO.out.2⟩ H5.out (Nat.le_add_right _ _)) | exact (HRL.out _ _ _ _ _ _ _ _ _ (⟨c1, b, ({ p with air := p.air.eraseIdx k } : KPa)⟩ : KPr) _ hM ⟨HK4.out, HKO.out.2⟩ H5.out (Nat.le_add_right _ _))
set_option maxRecDepth 100000 in
set_option maxHeartbeats 8000000 in
theorem do_come1 (h : 8 ≤ kd) (k : Nat) (g : KSeg) (hkk : kk = k) (hg : p.air[k]? = some g) (hto : (g.ta = 2 ∧ g.tp = 80)) : Code.wp Try.prog doSwitch (Exit.then K Q0) ⟨(u0 :: u1 :: .pointer (some ⟨gx, 0, none⟩) :: .pointer (some ⟨gs, 0, none⟩) :: u4 :: .pointer (some ⟨gk, 0, none⟩) :: .int .i64 ii :: .func (.func 58) #[] #[.pointer (some ⟨gx, 0, none⟩), .pointer (some ⟨gk, 0, none⟩)] :: .int .i64 kd :: u9 :: u10 :: u11 :: u12 :: u13 :: u14 :: u15 :: u16 :: u17 :: u18 :: u19 :: u20 :: u21 :: u22 :: u23 :: u24 :: u25 :: u26 :: u27 :: u28 :: u29 :: u30 :: u31 :: u32 :: u33 :: u34 :: u35 :: u36 :: u37 :: u38 :: u39 :: u40 :: u41 :: u42 :: u43 :: u44 :: u45 :: u46 :: u47 :: u48 :: u49 :: u50 :: u51 :: u52 :: u53 :: u54 :: u55 :: u56 :: u57 :: u58 :: u59 :: u60 :: u61 :: u62 :: u63 :: u64 :: u65 :: u66 :: u67 :: u68 :: u69 :: u70 :: u71 :: u72 :: u73 :: u74 :: u75 :: u76 :: u77 :: u78 :: u79 :: u80 :: u81 :: u82 :: u83 :: u84 :: u85 :: u86 :: u87 :: u88 :: u89 :: u90 :: u91 :: u92 :: u93 :: u94 :: u95 :: u96 :: u97 :: u98 :: u99 :: u100 :: u101 :: u102 :: u103 :: u104 :: u105 :: u106 :: u107 :: u108 :: u109 :: u110 :: u111 :: u112 :: u113 :: u114 :: u115 :: u116 :: u117 :: u118 :: u119 :: u120 :: u121 :: u122 :: u123 :: u124 :: u125 :: u126 :: u127 :: u128 :: u129 :: u130 :: u131 :: u132 :: u133 :: u134 :: u135 :: u136 :: u137 :: u138 :: u139 :: u140 :: u141 :: u142 :: u143 :: u144 :: u145 :: u146 :: u147 :: u148 :: u149 :: u150 :: u151 :: u152 :: u153 :: u154 :: u155 :: u156 :: u157 :: u158 :: u159 :: u160 :: u161 :: u162 :: u163 :: u164 :: u165 :: u166 :: u167 :: u168 :: u169 :: u170 :: u171 :: u172 :: u173 :: u174 :: u175 :: u176 :: u177 :: u178 :: u179 :: u180 :: u181 :: u182 :: u183 :: u184 :: u185 :: u186 :: u187 :: u188 :: u189 :: u190 :: u191 :: u192 :: []).toArray, []⟩ w4 := by
 subst hkk
 have hP := HP.out
 have ht := HT.out
 have hlen := hP.len
 have hlt : k < p.air.length := (List.getElem?_eq_some_iff.1 hg).1
 (try dsimp only at hlen)
 have HRL := Lib.hid (fun (W : World) (kk' : Int) (va' : Value) (gia' gwa' : Nat) (ka' : KPt) (gib' gwb' : Nat) (kb' : KPt) (y : KPr) (N' : Nat) (h : MemX E w0 W (doM gx gk gs gp ga gb kk' va' gia' gwa' ka' gib' gwb' kb' cs y m)) (h1 : KPl.ok ⟨gp, ga, gia', gwa', ka', gb, gib', gwb', kb', va'⟩ y) (h2 : PI iss irs N' (t + 1) y) (h3 : N' ≤ N + s.size) => (⟨kk', va', gia', gwa', ka', gib', gwb', kb', y, N', h, h1, h2, h3⟩ : doRel E w0 gx gk gs gp ga gb cs m iss irs (N + s.size) (t + 1) W))
 have h4 := hP.come (List.mem_of_getElem? hg) (by omega)
 have h5 := h4.few (l := p.air.eraseIdx k) (fun x hx => (come_air ⟨a, b, p⟩ g).symm ▸ List.mem_of_mem_eraseIdx hx) (by rw [List.length_eraseIdx_of_lt hlt]; omega)
 rw [show come ⟨a, b, p⟩ g = ⟨a, cIn b g, p⟩ from by unfold come; rw [if_pos hto]] at h5
 dsimp only at h5
 have ha := hP.cb
 have hok := HOK.out
 have hsg : SegOk g := by obtain ⟨_, _, hx⟩ := hP.h; exact PH.aok hx g (List.mem_of_getElem? hg)
 dsimp only at ha
 obtain ⟨c1, hc1⟩ : ∃ z, z = cIn b g := ⟨_, rfl⟩
 have HIN := Lib.hid (fun (W : World) (v1 : Value) (gg : Nat) (h : MemX E w0 W (atR gg 33 (cSeg g) :: (atR gx 40 [.pointer (some ⟨gp, 0, none⟩)] :: atR gk 3 [.int .i64 k] :: prR gp ga gb v1 ({ p with air := p.air.eraseIdx k } : KPa) :: arR v1 ({ p with air := p.air.eraseIdx k } : KPa).air :: atR gs 70 cs :: (cnH ga gia gwa a ka ++ (cnH gb gib gwb b kb ++ m))))) => (by
  have h2 := inF (atR gg 33 (cSeg g) :: (atR gx 40 [.pointer (some ⟨gp, 0, none⟩)] :: atR gk 3 [.int .i64 k] :: prR gp ga gb v1 ({ p with air := p.air.eraseIdx k } : KPa) :: arR v1 ({ p with air := p.air.eraseIdx k } : KPa).air :: atR gs 70 cs :: cnH ga gia gwa a ka)) m h hok.2 ha (by omega) g hsg
  rw [← hc1] at h2
  exact h2 : Calls Try.prog 19 #[.pointer (some ⟨gb, 0, none⟩), .agg (cSeg g).toArray] W fun e W' => ∃ gi' gw' k', e = .returned (.int .i64 (cInE b g)) ∧ MemX E w0 W' (atR gg 33 (cSeg g) :: (atR gx 40 [.pointer (some ⟨gp, 0, none⟩)] :: atR gk 3 [.int .i64 k] :: prR gp ga gb v1 ({ p with air := p.air.eraseIdx k } : KPa) :: arR v1 ({ p with air := p.air.eraseIdx k } : KPa).air :: atR gs 70 cs :: (cnH ga gia gwa a ka ++ (cnH gb gi' gw' c1 k' ++ m)))) ∧ KOk k' gi' gw' c1.h))
 rw [← hc1] at h5
 have H5 := Lib.hid h5
 have HKO := Lib.hid hok
 obtain ⟨ie, hie⟩ : ∃ z, z = cInE b g := ⟨_, rfl⟩
 rw [← hie] at HIN
 obtain ⟨Aa, qa, hva⟩ := (hM.row (f := cSeg) (rs := p.air) 3 rfl).form
 obtain ⟨na, hna⟩ : ∃ z, z = p.air.length := ⟨_, rfl⟩
 rw [← hna] at hva
 subst hva
 have HNA := Lib.hid hna
 have HTK := Lib.hid (fun (W : World) (h : MemX E w0 W (atR gx 40 [.pointer (some ⟨gp, 0, none⟩)] :: atR gk 3 [.int .i64 k] :: prR gp ga gb (.slice Aa na qa) p :: arR (.slice Aa na qa) p.air :: atR gs 70 cs :: (cnH ga gia gwa a ka ++ (cnH gb gib gwb b kb ++ m)))) => take_any gx gk gp ga gb (.slice Aa na qa) p k g (atR gs 70 cs :: (cnH ga gia gwa a ka ++ (cnH gb gib gwb b kb ++ m))) W h hg (by omega))
 have HEQ := Lib.hid (fun W => (by have h := eqB_End g.ta g.tp 2 80 W; rw [decide_eq_true hto] at h; exact h : (Op.equalIn 10000 29 (.agg #[.int .u32 g.ta, .int .i64 g.tp]) (.agg #[.int .u32 2, .int .i64 80])).run Try.prog W = .ok true W))
 have tk : decide (kd < 2) = false := decide_eq_false (by omega)
 have tk2 : (kd == 2) = false := by simp; omega
 have tk3 : (kd == 3) = false := by simp; omega
 have tk6 : decide (kd < 6) = false := decide_eq_false (by omega)
 have tl : ((na : Int) == 0) = false := by simp; omega
 have tk4 : (kd == 6) = false := by simp; omega
 have tk5 : (kd == 7) = false := by simp; omega
 clear h
 clear hP ht hlen hlt h4 h5 hna hg hto ha hok hsg hc1 hie
 conv => arg 2; whnf
 go_upto_region 9 with (first | go_skip | ((with_reducible refine at_load_ ?_); refine at_wanted_ (by rfl) ?_; first | (refine lM 0 hM rfl rfl rfl rfl ?_) | (refine lM 2 hM rfl rfl rfl rfl ?_)) | (go_at_call 58; refine (HTK.out _ hM).mono ?_; clear hM; rintro e W ⟨rfl, v1, hM⟩; dsimp only) | ((with_reducible refine at_alloc_ (T := 33) ?_); refine wpList_alloc_mem rfl 33 rfl _ zv_Seg _ rfl hM ?_; clear hM; intro gg W hM; replace hM := cn_last hM) | ((with_reducible refine at_store_ (T := 33) ?_); refine wpList_store_mem rfl 33 _ _ rfl 0 _ _ _ (cSeg g) hM rfl rfl rfl rfl sz_Seg rfl ?_; clear hM; intro W hM; simp only [List.cons_append, zE] at hM))
 refine wp_region_M [0,1,3] [] hM (by kernel_rfl) ?_
 clear hM
 intro wo hM
 refine tW 0 rfl ?_
 simp only [zz]
 refine tL 1 (v := .agg #[.int .u32 g.ta, .int .i64 g.tp]) rfl ⟨fun r hr => hM.get 0 hr, fun r hr => hM.get 1 hr, fun r hr => hM.get 3 hr, trivial⟩ (Or.inl ⟨by rfl, ?hy⟩) ?_
 case hy => (rintro W ⟨i0, i1, i3, -⟩; have c0 := (show At W _ _ _ from i0 _ rfl).cell; have c1 := (show At W _ _ _ from i1 _ rfl).cell; have c3 := (show At W _ _ _ from i3 _ rfl).cell; (try simp only [cSeg,prC] at c0 c1 c3); exact exec_loadw _ _ rfl gg 2 rfl [.int .u32 g.ta, .int .i64 g.tp] _ Try.underlying29 rfl sz_End (range_sub (cs := cSeg g) c0 2 _ rfl))
 simp only [zz]
 refine tL 2 (v := ?_) rfl ⟨fun r hr => hM.get 0 hr, fun r hr => hM.get 1 hr, fun r hr => hM.get 3 hr, trivial⟩ (Or.inl ⟨by rfl, ?hy⟩) ?_
 case hy => (rintro W ⟨i0, i1, i3, -⟩; have c0 := (show At W _ _ _ from i0 _ rfl).cell; have c1 := (show At W _ _ _ from i1 _ rfl).cell; have c3 := (show At W _ _ _ from i3 _ rfl).cell; (try simp only [cSeg,prC] at c0 c1 c3); go_simp; (try with_reducible rfl))
 simp only [zz]
 refine tW 3 rfl ?_
 simp only [zz]
 refine tW 4 rfl ?_
 simp only [zz]
 refine tW 5 rfl ?_
 simp only [zz]
 refine tL 6 (v := .agg #[.int .u32 2, .int .i64 80]) rfl ⟨fun r hr => hM.get 0 hr, fun r hr => hM.get 1 hr, fun r hr => hM.get 3 hr, trivial⟩ (Or.inl ⟨by rfl, ?hy⟩) ?_
 case hy => (rintro W ⟨i0, i1, i3, -⟩; have c0 := (show At W _ _ _ from i0 _ rfl).cell; have c1 := (show At W _ _ _ from i1 _ rfl).cell; have c3 := (show At W _ _ _ from i3 _ rfl).cell; (try simp only [cSeg,prC] at c0 c1 c3); exact exec_loadw _ _ rfl gp 4 rfl [.int .u32 2, .int .i64 80] _ Try.underlying29 rfl sz_End (range_sub (cs := prC ga gb v1 ({ p with air := p.air.eraseIdx k } : KPa)) c3 4 _ rfl))
 simp only [zz]
 refine tY 7 rfl ((.inl ⟨by rfl, fun w => exec_eqs _ _ _ _ rfl _ _ rfl rfl eg_End _ HEQ.out w⟩)) ?_
 simp only [zz]
 (try simp only [Bool.not_true, Bool.not_false])
 refine wpI_done (by kernel_rfl) ?_ _
 (try simp only [zz])
 go_upto_region 11 with (fail)
 refine wp_region_M [0,1,3] [] hM (by kernel_rfl) ?_
 clear hM
 intro wo hM
 refine tL 0 (v := ?_) rfl ⟨fun r hr => hM.get 0 hr, fun r hr => hM.get 1 hr, fun r hr => hM.get 3 hr, trivial⟩ (Or.inl ⟨by rfl, ?hy⟩) ?_
 case hy => (rintro W ⟨i0, i1, i3, -⟩; have c0 := (show At W _ _ _ from i0 _ rfl).cell; have c1 := (show At W _ _ _ from i1 _ rfl).cell; have c3 := (show At W _ _ _ from i3 _ rfl).cell; (try simp only [cSeg,prC] at c0 c1 c3); go_simp; (try with_reducible rfl))
 simp only [zz]
 refine tW 1 rfl ?_
 simp only [zz]
 refine tW 2 rfl ?_
 simp only [zz]
 refine tW 3 rfl ?_
 simp only [zz]
 refine tW 4 rfl ?_
 simp only [zz]
 refine tL 5 (v := ?_) rfl ⟨fun r hr => hM.get 0 hr, fun r hr => hM.get 1 hr, fun r hr => hM.get 3 hr, trivial⟩ (Or.inl ⟨by rfl, ?hy⟩) ?_
 case hy => (rintro W ⟨i0, i1, i3, -⟩; have c0 := (show At W _ _ _ from i0 _ rfl).cell; have c1 := (show At W _ _ _ from i1 _ rfl).cell; have c3 := (show At W _ _ _ from i3 _ rfl).cell; (try simp only [cSeg,prC] at c0 c1 c3); go_simp; (try with_reducible rfl))
 simp only [zz]
 refine tL 6 (v := .agg (cSeg g).toArray) rfl ⟨fun r hr => hM.get 0 hr, fun r hr => hM.get 1 hr, fun r hr => hM.get 3 hr, trivial⟩ (Or.inl ⟨by rfl, ?hy⟩) ?_
 case hy => (rintro W ⟨i0, i1, i3, -⟩; have c0 := (show At W _ _ _ from i0 _ rfl).cell; have c1 := (show At W _ _ _ from i1 _ rfl).cell; have c3 := (show At W _ _ _ from i3 _ rfl).cell; (try simp only [cSeg,prC] at c0 c1 c3); exact exec_loadw _ _ rfl gg 0 rfl (cSeg g) _ Try.underlying33 rfl sz_Seg (range_cells c0))
 simp only [zz]
 refine wpI_one (i := 7) rfl (by kernel_rfl) ?_
 (try simp only [zz])
 go_wp2_with (first
   | go_skip
   | ((go_at_call 19; refine (HIN.out _ _ gg hM).mono ?_; clear hM; rintro e W ⟨gi4, gw4, k4, rfl, hM, hK⟩; have HK4 := Lib.hid hK; clear hK; dsimp only)))
 refine contI_normal ⟨fun r hr => hM.get 0 hr, fun r hr => hM.get 1 hr, fun r hr => hM.get 3 hr, trivial⟩ ?_
 (try simp only [zz])
 refine wpI_done (by kernel_rfl) ?_ _
 (try simp only [zz])
 replace hM := (show MemX E w0 W ([_] ++ _) from hM).drop_
 first | exact hK _ _ _ _ _ _ _ _ _ _ _ _ _ _ _ _ _ _ _ _ _ _ _ _ _ _ _ _ _ _ _ _ _ _ _ _ _ _ _ _ _ _ _ _ _ _ _ _ _ _ _ _ _ _ _ _ _ _ _ _ _ _ _ _ _ _ _ _ _ _ _ _ _ _ _ _ _ _ _ _ _ _ _ _ _ _ _ _ _ _ _ _ _ _ _ _ _ _ _ _ _ _ _ _ _ _ _ _ _ _ _ _ _ _ _ _ _ _ _ _ _ _ _ _ _ _ _ _ _ _ _ _ _ _ _ _ _ _ _ _ _ _ _ _ _ _ _ _ _ _ _ _ _ _ _ _ _ _ _ _ _ _ _ _ (HRL.out _ _ _ _ _ _ _ _ _ (⟨a, c1, ({ p with air := p.air.eraseIdx k } : KPa)⟩ : KPr) _ hM ⟨HKO.out.1, HK4.out⟩ H5.out (Nat.le_add_right _ _)) | exact (HRL.out _ _ _ _ _ _ _ _ _ (⟨a, c1, ({ p with air := p.air.eraseIdx k } : KPa)⟩ : KPr) _ hM ⟨HKO.out.1, HK4.out⟩ H5.out (Nat.le_add_right _ _))
end
end Go.Proofs.Ytfpifahkpkjfgaa
