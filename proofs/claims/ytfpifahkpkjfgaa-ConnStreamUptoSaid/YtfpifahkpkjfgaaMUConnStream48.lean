/- What UConnStream needs, a part: CnDf, CnDz, WConnStream. -/
import Derived.Deep.CutBlock
import Derived.Test.YtfpifahkpkjfgaaMZ
import Derived.Test.YtfpifahkpkjfgaaMUConnStream1
import Derived.Test.YtfpifahkpkjfgaaMUConnStream33
import Derived.Test.YtfpifahkpkjfgaaMUConnStream44
import Derived.Test.YtfpifahkpkjfgaaMUConnStream45
import Derived.Test.YtfpifahkpkjfgaaMUConnStream47
/- conn: does: all its ways. Written by my gencn.py. -/
namespace Go.Proofs.Ytfpifahkpkjfgaa
open Go.RowKit Go.Lib
set_option linter.unusedVariables false
set_option linter.unusedSimpArgs false
set_option linter.unusedSectionVars false
set_option maxRecDepth 100000
section
variable {u0 u1 u4 u9 u10 u11 u12 u13 u14 u15 u16 u17 u18 u19 u20 u21 u22 u23 u24 u25 u26 u27 u28 u29 u30 u31 u32 u33 u34 u35 u36 u37 u38 u39 u40 u41 u42 u43 u44 u45 u46 u47 u48 u49 u50 u51 u52 u53 u54 u55 u56 u57 u58 u59 u60 u61 u62 u63 u64 u65 u66 u67 u68 u69 u70 u71 u72 u73 u74 u75 u76 u77 u78 u79 u80 u81 u82 u83 u84 u85 u86 u87 u88 u89 u90 u91 u92 u93 u94 u95 u96 u97 u98 u99 u100 u101 u102 u103 u104 u105 u106 u107 u108 u109 u110 u111 u112 u113 u114 u115 u116 u117 u118 u119 u120 u121 u122 u123 u124 u125 u126 u127 u128 u129 u130 u131 u132 u133 u134 u135 u136 u137 u138 u139 u140 u141 u142 u143 u144 u145 u146 u147 u148 u149 u150 u151 u152 u153 u154 u155 u156 u157 u158 u159 u160 u161 u162 u163 u164 u165 u166 u167 u168 u169 u170 u171 u172 u173 u174 u175 u176 u177 u178 u179 u180 u181 u182 u183 u184 u185 u186 u187 u188 u189 u190 u191 u192 : Value} {E : Nat → Prop} {w0 w4 : World} (gx gk gs gp ga gb : Nat) (kk : Int) (va : Value) (gia gwa : Nat) (ka : KPt) (gib gwb : Nat) (kb : KPt) (cs : List Value) (a b : KCn) (p : KPa) (m : List Res) {iss irs t : Int} {N : Nat} (ii kd xb : Int) (s : ByteArray) (K : Act → World → Prop) (Q0 : Exit → Act → World → Prop)
 (hM : MemX E w0 w4 (atR gx 40 [.pointer (some ⟨gp, 0, none⟩)] :: atR gk 3 [.int .i64 kk] :: prR gp ga gb va p :: arR va p.air :: atR gs 70 cs :: (cnH ga gia gwa a ka ++ (cnH gb gib gwb b kb ++ m)))) (HP : Hid (PI iss irs N t ⟨a, b, p⟩)) (HOK : Hid (KOk ka gia gwa a.h ∧ KOk kb gib gwb b.h)) (HB : Hid (cs[2]? = some (.int .i64 xb) ∧ -9223372036854775808 ≤ xb ∧ xb ≤ 9223372036854775807)) (HS4 : Hid (cs[4]? = some (.string s))) (HT : Hid (t ≤ 100000000 ∧ N + s.size ≤ 1048576))
 (HQ0 : Hid (∀ c d v a w, Q0 (.panic c) (Act.put a d v) w → Q0 (.panic c) a w))
 (hK : ∀ (v4 v9 v10 v11 v12 v13 v34 v35 v36 v37 v38 v39 v40 v41 v42 v43 v44 v45 v46 v47 v48 v49 v50 v51 v52 v53 v54 v55 v56 v57 v58 v59 v60 v61 v62 v63 v64 v65 v66 v67 v68 v69 v70 v71 v72 v73 v74 v75 v76 v77 v78 v79 v80 v81 v82 v83 v84 v85 v86 v87 v88 v89 v90 v91 v92 v93 v94 v95 v96 v97 v98 v99 v100 v101 v102 v103 v104 v105 v106 v107 v108 v109 v110 v111 v112 v113 v114 v115 v116 v117 v118 v119 v120 v121 v122 v123 v124 v125 v126 v127 v128 v129 v130 v131 v132 v133 v134 v135 v136 v137 v138 v139 v140 v141 v142 v143 v144 v145 v146 v147 v148 v149 v150 v151 v152 v153 v154 v155 v156 v157 v158 v159 v160 v161 v162 v163 v164 v165 v166 v167 v168 v169 v170 v171 v172 v173 v174 v175 v176 v177 v178 v179 v180 v181 v182 v183 v184 v185 v186 v187 v188 v189 v190 : Value) (W : World), doRel E w0 gx gk gs gp ga gb cs m iss irs (N + s.size) (t + 1) W → K ⟨(u0 :: u1 :: .pointer (some ⟨gx, 0, none⟩) :: .pointer (some ⟨gs, 0, none⟩) :: v4 :: .pointer (some ⟨gk, 0, none⟩) :: .int .i64 ii :: .func (.func 58) #[] #[.pointer (some ⟨gx, 0, none⟩), .pointer (some ⟨gk, 0, none⟩)] :: .int .i64 kd :: v9 :: v10 :: v11 :: v12 :: v13 :: u14 :: u15 :: u16 :: u17 :: u18 :: u19 :: u20 :: u21 :: u22 :: u23 :: u24 :: u25 :: u26 :: u27 :: u28 :: u29 :: u30 :: u31 :: u32 :: u33 :: v34 :: v35 :: v36 :: v37 :: v38 :: v39 :: v40 :: v41 :: v42 :: v43 :: v44 :: v45 :: v46 :: v47 :: v48 :: v49 :: v50 :: v51 :: v52 :: v53 :: v54 :: v55 :: v56 :: v57 :: v58 :: v59 :: v60 :: v61 :: v62 :: v63 :: v64 :: v65 :: v66 :: v67 :: v68 :: v69 :: v70 :: v71 :: v72 :: v73 :: v74 :: v75 :: v76 :: v77 :: v78 :: v79 :: v80 :: v81 :: v82 :: v83 :: v84 :: v85 :: v86 :: v87 :: v88 :: v89 :: v90 :: v91 :: v92 :: v93 :: v94 :: v95 :: v96 :: v97 :: v98 :: v99 :: v100 :: v101 :: v102 :: v103 :: v104 :: v105 :: v106 :: v107 :: v108 :: v109 :: v110 :: v111 :: v112 :: v113 :: v114 :: v115 :: v116 :: v117 :: v118 :: v119 :: v120 :: v121 :: v122 :: v123 :: v124 :: v125 :: v126 :: v127 :: v128 :: v129 :: v130 :: v131 :: v132 :: v133 :: v134 :: v135 :: v136 :: v137 :: v138 :: v139 :: v140 :: v141 :: v142 :: v143 :: v144 :: v145 :: v146 :: v147 :: v148 :: v149 :: v150 :: v151 :: v152 :: v153 :: v154 :: v155 :: v156 :: v157 :: v158 :: v159 :: v160 :: v161 :: v162 :: v163 :: v164 :: v165 :: v166 :: v167 :: v168 :: v169 :: v170 :: v171 :: v172 :: v173 :: v174 :: v175 :: v176 :: v177 :: v178 :: v179 :: v180 :: v181 :: v182 :: v183 :: v184 :: v185 :: v186 :: v187 :: v188 :: v189 :: v190 :: u191 :: u192 :: []).toArray, []⟩ W)
include hM HP HOK HB HS4 HT HQ0 hK
set_option maxRecDepth 100000 in
set_option maxHeartbeats 8000000 in
theorem do_all (h0 : 0 ≤ kd) (h12 : kd < 12) (hi : ii = 0 ∨ ii = 1) (hk : p.air ≠ [] → ∃ k : Nat, kk = k ∧ k < p.air.length) : Code.wp Try.prog doSwitch (Exit.then K Q0) ⟨(u0 :: u1 :: .pointer (some ⟨gx, 0, none⟩) :: .pointer (some ⟨gs, 0, none⟩) :: u4 :: .pointer (some ⟨gk, 0, none⟩) :: .int .i64 ii :: .func (.func 58) #[] #[.pointer (some ⟨gx, 0, none⟩), .pointer (some ⟨gk, 0, none⟩)] :: .int .i64 kd :: u9 :: u10 :: u11 :: u12 :: u13 :: u14 :: u15 :: u16 :: u17 :: u18 :: u19 :: u20 :: u21 :: u22 :: u23 :: u24 :: u25 :: u26 :: u27 :: u28 :: u29 :: u30 :: u31 :: u32 :: u33 :: u34 :: u35 :: u36 :: u37 :: u38 :: u39 :: u40 :: u41 :: u42 :: u43 :: u44 :: u45 :: u46 :: u47 :: u48 :: u49 :: u50 :: u51 :: u52 :: u53 :: u54 :: u55 :: u56 :: u57 :: u58 :: u59 :: u60 :: u61 :: u62 :: u63 :: u64 :: u65 :: u66 :: u67 :: u68 :: u69 :: u70 :: u71 :: u72 :: u73 :: u74 :: u75 :: u76 :: u77 :: u78 :: u79 :: u80 :: u81 :: u82 :: u83 :: u84 :: u85 :: u86 :: u87 :: u88 :: u89 :: u90 :: u91 :: u92 :: u93 :: u94 :: u95 :: u96 :: u97 :: u98 :: u99 :: u100 :: u101 :: u102 :: u103 :: u104 :: u105 :: u106 :: u107 :: u108 :: u109 :: u110 :: u111 :: u112 :: u113 :: u114 :: u115 :: u116 :: u117 :: u118 :: u119 :: u120 :: u121 :: u122 :: u123 :: u124 :: u125 :: u126 :: u127 :: u128 :: u129 :: u130 :: u131 :: u132 :: u133 :: u134 :: u135 :: u136 :: u137 :: u138 :: u139 :: u140 :: u141 :: u142 :: u143 :: u144 :: u145 :: u146 :: u147 :: u148 :: u149 :: u150 :: u151 :: u152 :: u153 :: u154 :: u155 :: u156 :: u157 :: u158 :: u159 :: u160 :: u161 :: u162 :: u163 :: u164 :: u165 :: u166 :: u167 :: u168 :: u169 :: u170 :: u171 :: u172 :: u173 :: u174 :: u175 :: u176 :: u177 :: u178 :: u179 :: u180 :: u181 :: u182 :: u183 :: u184 :: u185 :: u186 :: u187 :: u188 :: u189 :: u190 :: u191 :: u192 :: []).toArray, []⟩ w4 := by
 by_cases h : kd = 0 ∨ kd = 1
 ·rcases hi with hi | hi
  ·exact do_write0 gx gk gs gp ga gb kk va gia gwa ka gib gwb kb cs a b p m ii kd xb s K Q0 hM HP HOK HB HS4 HT HQ0 hK h hi
  ·exact do_write1 gx gk gs gp ga gb kk va gia gwa ka gib gwb kb cs a b p m ii kd xb s K Q0 hM HP HOK HB HS4 HT HQ0 hK h hi
 by_cases h2 : kd = 2
 ·rcases hi with hi | hi
  ·exact do_close0 gx gk gs gp ga gb kk va gia gwa ka gib gwb kb cs a b p m ii kd xb s K Q0 hM HP HOK HB HS4 HT HQ0 hK h2 hi
  ·exact do_close1 gx gk gs gp ga gb kk va gia gwa ka gib gwb kb cs a b p m ii kd xb s K Q0 hM HP HOK HB HS4 HT HQ0 hK h2 hi
 by_cases h3 : kd = 3
 ·exact do_tick gx gk gs gp ga gb kk va gia gwa ka gib gwb kb cs a b p m ii kd xb s K Q0 hM HP HOK HB HS4 HT HQ0 hK h3
 by_cases h4 : kd = 4 ∨ kd = 5
 ·rcases hi with hi | hi
  ·exact do_reads0 gx gk gs gp ga gb kk va gia gwa ka gib gwb kb cs a b p m ii kd xb s K Q0 hM HP HOK HB HS4 HT HQ0 hK h4 hi
  ·exact do_reads1 gx gk gs gp ga gb kk va gia gwa ka gib gwb kb cs a b p m ii kd xb s K Q0 hM HP HOK HB HS4 HT HQ0 hK h4 hi
 by_cases ha : p.air = []
 ·exact do_none gx gk gs gp ga gb kk va gia gwa ka gib gwb kb cs a b p m ii kd xb s K Q0 hM HP HOK HB HS4 HT HQ0 hK (by omega) ha
 obtain ⟨k, hkk, hlt⟩ := hk ha
 have hg : p.air[k]? = some (p.air[k]'hlt) := List.getElem?_eq_getElem hlt
 by_cases h6 : kd = 6
 ·exact do_take gx gk gs gp ga gb kk va gia gwa ka gib gwb kb cs a b p m ii kd xb s K Q0 hM HP HOK HB HS4 HT HQ0 hK h6 k _ hkk hg
 by_cases h7 : kd = 7
 ·exact do_dup gx gk gs gp ga gb kk va gia gwa ka gib gwb kb cs a b p m ii kd xb s K Q0 hM HP HOK HB HS4 HT HQ0 hK h7 k _ hkk hg
 by_cases ht : (p.air[k]'hlt).ta = 2 ∧ (p.air[k]'hlt).tp = 80
 ·exact do_come1 gx gk gs gp ga gb kk va gia gwa ka gib gwb kb cs a b p m ii kd xb s K Q0 hM HP HOK HB HS4 HT HQ0 hK (by omega) k _ hkk hg ht
 ·exact do_come0 gx gk gs gp ga gb kk va gia gwa ka gib gwb kb cs a b p m ii kd xb s K Q0 hM HP HOK HB HS4 HT HQ0 hK (by omega) k _ hkk hg ht
end
end Go.Proofs.Ytfpifahkpkjfgaa
/- conn: does: does. Written by my gencn.py. -/
namespace Go.Proofs.Ytfpifahkpkjfgaa
open Go.RowKit Go.Lib
set_option linter.unusedVariables false
set_option linter.unusedSimpArgs false
set_option linter.unusedSectionVars false
set_option maxRecDepth 100000
theorem do_init {E : Nat → Prop} {w W : World} {X K P R S : Res} {l : List Res} (h : MemX E w W (K :: S :: X :: P :: R :: l)) : MemX E w W (X :: K :: P :: R :: S :: l) := by
 refine h.perm ?_
 have h1 : ([K, S] ++ ([X] ++ (P :: R :: l))).Perm ([X] ++ ([K, S] ++ (P :: R :: l))) := List.perm_append_comm_assoc _ _ _
 refine h1.trans (List.Perm.cons X (List.Perm.cons K ?_))
 exact List.perm_append_comm_assoc [S] [P, R] l
theorem MemX.init {E : Nat → Prop} {w W : World} {l : List Res} {A : Res} (h : MemX E w W (l ++ [A])) : MemX E w W l := by
 have := h.take_ l.length
 rwa [List.take_left] at this
theorem do_end {E : Nat → Prop} {w W : World} {X K P R S : Res} {l : List Res} (h : MemX E w W (X :: K :: P :: R :: S :: l)) : MemX E w W (P :: R :: l) := by
 have h1 : ([P, R] ++ ([S] ++ l)).Perm ([S] ++ ([P, R] ++ l)) := List.perm_append_comm_assoc _ _ _
 exact (show MemX E w W ([_, _, _] ++ _) from h.perm (List.Perm.cons X (List.Perm.cons K h1))).drop_
set_option maxRecDepth 100000 in
set_option maxHeartbeats 8000000 in
theorem does_any {E : Nat → Prop} {w0 : World} (L : KPl) (x : KPr) (m : List Res) (w : World) (hM0 : MemX E w0 w (prM L x m)) (hok : L.ok x) {iss irs t : Int} {N : Nat} (hP : PI iss irs N t x) (cs : List Value) (hcs : okAll ksStep cs) (s : ByteArray) (hs : cs[4]? = some (.string s)) (hN : N + s.size ≤ 1048576) (ht : t ≤ 10000000) :
  Calls Try.prog 32 #[.pointer (some ⟨L.gp, 0, none⟩), .agg cs.toArray] w fun e w' => e = .returned (.bool true) ∧ ∃ (L' : KPl) (y : KPr) (N' : Nat), MemX E w0 w' (prM L' y m) ∧ KPl.ok L' y ∧ L'.gp = L.gp ∧ PI iss irs N' (t + 1) y ∧ N' ≤ N + s.size := by
 obtain ⟨gp, ga, gia, gwa, ka, gb, gib, gwb, kb, va⟩ := L
 obtain ⟨a, b, p⟩ := x
 have hi1 : (Try.prog.info? 70).map (·.size) = some cs.length := by rw [step_len hcs]; exact step_info
 obtain ⟨kd, hkd, hkd1, hkd2⟩ := step_int hcs 0 rfl
 obtain ⟨xa, hxa, hxa1, hxa2⟩ := step_int hcs 1 rfl
 obtain ⟨xb, hxb, hxb1, hxb2⟩ := step_int hcs 2 rfl
 have HOF := Lib.hid (fun (W : World) => Of_any cs kd 12 W hkd hkd1 hkd2 (by omega) (by omega))
 have HRA := Lib.hid (fun (W : World) => Rest_any xa 2 W hxa1 hxa2 (by decide) (by decide))
 have HXA := Lib.hid hxa
 have HB := Lib.hid (show cs[2]? = some (.int .i64 xb) ∧ -9223372036854775808 ≤ xb ∧ xb ≤ 9223372036854775807 from ⟨hxb, hxb1, hxb2⟩)
 have HS4 := Lib.hid hs
 have HP := Lib.hid hP
 have HOK := Lib.hid (show KOk ka gia gwa a.h ∧ KOk kb gib gwb b.h from hok)
 have HT := Lib.hid (show t ≤ 100000000 ∧ N + s.size ≤ 1048576 from ⟨by omega, hN⟩)
 have HT1 := Lib.hid ht
 have hlen := hP.len
 dsimp only at hlen
 have HLE := Lib.hid (show p.air.length ≤ 1000000000 from by omega)
 have HXB := Lib.hid hxb
 clear hlen hcs hkd hkd1 hkd2 hxa hxa1 hxa2 hxb hxb1 hxb2 hs hP hok hN ht
 have hM : MemX E w0 w (prR gp ga gb va p :: arR va p.air :: (cnH ga gia gwa a ka ++ (cnH gb gib gwb b kb ++ m))) := hM0
 clear hM0
 go_enter Try.func32, Try.ntmps32
 go_upto_region 1 with (first | go_skip | ((with_reducible refine at_box_ ?_); refine wpList_box_mem rfl _ _ rfl [.pointer (some ⟨gp, 0, none⟩)] rfl hM ?_; clear hM; intro gx W hM; replace hM := cn_last hM) | ((with_reducible refine at_box_ ?_); refine wpList_box_mem rfl _ _ rfl cs rfl hM ?_; clear hM; intro gs W hM; replace hM := cn_last hM))
 go_upto_region 2 with (first | go_skip | ((with_reducible refine at_alloc_ (T := 3) ?_); refine wpList_alloc_mem rfl 3 rfl (.int .i64 0) (fun _ => by kernel_rfl) [.int .i64 0] rfl hM ?_; clear hM; intro gk W hM; replace hM := cn_last hM) | ((with_reducible refine at_store_ ?_); refine wpList_store1_mem rfl _ _ _ rfl 0 _ _ _ _ _ hM rfl rfl rfl (by rfl) (by rfl) (by kernel_rfl) rfl ?_; clear hM; intro W hM; simp only [zE] at hM))
 replace hM := (show MemX E w0 W (atR gx 40 [.pointer (some ⟨gp, 0, none⟩)] :: atR gk 3 [.int .i64 0] :: prR gp ga gb va p :: arR va p.air :: atR gs 70 cs :: (cnH ga gia gwa a ka ++ (cnH gb gib gwb b kb ++ m))) from do_init hM)
 obtain ⟨Aa, qa, hva⟩ := (hM.row (f := cSeg) (rs := p.air) 3 rfl).form
 obtain ⟨na, hna⟩ : ∃ z, z = p.air.length := ⟨_, rfl⟩
 rw [← hna] at hva HLE
 subst hva
 have HNA := Lib.hid hna
 clear hna
 have HRB := Lib.hid (fun (W : World) (h : 0 < (na : Int)) => Rest_any xb na W HB.out.2.1 HB.out.2.2 h (by have := HLE.out; omega))
 go_upto_if 19 with (first | go_skip | ((with_reducible refine at_load_ ?_); refine at_wanted_ (by rfl) ?_; first | (refine lM 0 hM rfl rfl rfl rfl ?_) | (refine lM 2 hM rfl rfl rfl rfl ?_)))
 go_cut [] (fun W => ∃ kk : Int, MemX E w0 W (atR gx 40 [.pointer (some ⟨gp, 0, none⟩)] :: atR gk 3 [.int .i64 kk] :: prR gp ga gb (.slice Aa na qa) p :: arR (.slice Aa na qa) p.air :: atR gs 70 cs :: (cnH ga gia gwa a ka ++ (cnH gb gib gwb b kb ++ m))) ∧ Hid (p.air ≠ [] → ∃ k : Nat, kk = k ∧ k < p.air.length))
 case first =>
  by_cases h0 : 0 < (na : Int)
  ·have t0 : decide (0 < (na : Int)) = true := decide_eq_true h0
   have h0n : 0 < na := by omega
   have t0n : decide (0 < na) = true := decide_eq_true h0n
   have HR3 := Lib.hid (fun W => HRB.out W h0)
   have HKK := Lib.hid (show p.air ≠ [] → ∃ k : Nat, xb % (na : Int) = k ∧ k < p.air.length from fun _ => ⟨(xb % (na : Int)).toNat, by
    have := Int.emod_nonneg xb (b := (na : Int)) (by omega)
    omega, by
    have := Int.emod_nonneg xb (b := (na : Int)) (by omega)
    have := Int.emod_lt_of_pos xb h0
    have := HNA.out
    omega⟩)
   obtain ⟨rk, hrk⟩ : ∃ z, z = xb % (na : Int) := ⟨_, rfl⟩
   rw [← hrk] at HR3 HKK
   clear h0 hrk
   go_upto_region 3 with (fail)
   refine wp_region_M [0,2,4] [8] hM (by kernel_rfl) ?_
   clear hM
   intro wo hM
   refine tW 0 rfl ?_
   simp only [zz]
   refine tL 1 (v := .int .i64 xb) rfl ⟨fun r hr => hM.get 0 hr, fun r hr => hM.get 2 hr, fun r hr => hM.get 4 hr, trivial⟩ (Or.inl ⟨by rfl, ?hy⟩) ?_
   case hy => (rintro W ⟨i0, i2, i4, -⟩; have c0 := (show At W _ _ _ from i0 _ rfl).cell; have c2 := (show At W _ _ _ from i2 _ rfl).cell; have c4 := (show At W _ _ _ from i4 _ rfl).cell; (try simp only [prC] at c0 c2 c4); (go_simp; rw [HXB.out]; rfl))
   simp only [zz]
   refine tL 2 (v := ?_) rfl ⟨fun r hr => hM.get 0 hr, fun r hr => hM.get 2 hr, fun r hr => hM.get 4 hr, trivial⟩ (Or.inl ⟨by rfl, ?hy⟩) ?_
   case hy => (rintro W ⟨i0, i2, i4, -⟩; have c0 := (show At W _ _ _ from i0 _ rfl).cell; have c2 := (show At W _ _ _ from i2 _ rfl).cell; have c4 := (show At W _ _ _ from i4 _ rfl).cell; (try simp only [prC] at c0 c2 c4); go_simp; (try with_reducible rfl))
   simp only [zz]
   refine tW 3 rfl ?_
   simp only [zz]
   refine tW 4 rfl ?_
   simp only [zz]
   refine tL 5 (v := ?_) rfl ⟨fun r hr => hM.get 0 hr, fun r hr => hM.get 2 hr, fun r hr => hM.get 4 hr, trivial⟩ (Or.inl ⟨by rfl, ?hy⟩) ?_
   case hy => (rintro W ⟨i0, i2, i4, -⟩; have c0 := (show At W _ _ _ from i0 _ rfl).cell; have c2 := (show At W _ _ _ from i2 _ rfl).cell; have c4 := (show At W _ _ _ from i4 _ rfl).cell; (try simp only [prC] at c0 c2 c4); go_simp; (try with_reducible rfl))
   simp only [zz]
   refine tW 6 rfl ?_
   simp only [zz]
   refine wpI_one (i := 7) rfl (by kernel_rfl) ?_
   (try simp only [zz])
   go_wp2_with (first
     | go_skip
     | ((go_at_call 13; refine (HR3.out _).mono ?_; rintro e W ⟨rfl, rfl⟩; dsimp only)))
   refine contI_normal ⟨fun r hr => hM.get 0 hr, fun r hr => hM.get 2 hr, fun r hr => hM.get 4 hr, trivial⟩ ?_
   (try simp only [zz])
   refine wpI_one (i := 8) rfl (by kernel_rfl) ?_
   (try simp only [zz])
   go_wp2_with (first
     | go_skip
     | (((with_reducible refine at_store_ ?_); refine wpList_store1_mem rfl _ _ _ rfl 1 _ _ _ _ _ hM rfl rfl rfl (by rfl) (by rfl) (by kernel_rfl) rfl ?_; clear hM; intro W hM; simp only [zF, zE] at hM)))
   refine contI_late (by decide) ?_
   (try simp only [zz])
   refine wpI_done (by kernel_rfl) ?_ _
   (try simp only [zz])
   go_wp2_with fail
   go_meet
   case rel => exact ⟨rk, hM, HKK⟩
  ·have t0 : decide (0 < (na : Int)) = false := decide_eq_false h0
   have h0n : ¬ 0 < na := by omega
   have t0n : decide (0 < na) = false := decide_eq_false h0n
   have HKK := Lib.hid (show p.air ≠ [] → ∃ k : Nat, (0 : Int) = k ∧ k < p.air.length from fun h => absurd (List.eq_nil_of_length_eq_zero (by have := HNA.out; omega)) h)
   clear h0
   go_wp2_with fail
   go_meet
   case rel => exact ⟨0, hM, HKK⟩
 case rest =>
  clear hM HRB
  obtain ⟨kk, hM, HKK⟩ := hcut
  go_upto_block 0 with (first | go_skip | ((with_reducible refine at_load_ (T := 70) ?_); refine wpList_load_mem rfl 70 _ rfl 4 _ _ _ hM rfl rfl _ Try.underlying70 rfl hi1 ?_) | ((with_reducible refine at_load_ ?_); refine at_wanted_ (by rfl) ?_; refine lM 4 hM rfl rfl rfl (by first | exact HXA.out | rfl) ?_) | (go_at_call 13; refine (HRA.out _).mono ?_; rintro e W ⟨rfl, rfl⟩; dsimp only) | (go_at_call 28; refine (HOF.out _).mono ?_; rintro e W ⟨rfl, hb⟩; replace hM := hM.kept hb; clear hb; dsimp only))
  refine do_all gx gk gs gp ga gb kk (.slice Aa na qa) gia gwa ka gib gwb kb cs a b p m _ _ xb s _ _ hM HP HOK HB HS4 HT (Lib.hid (by intro _ d _ _ _ h; cases d <;> exact h)) ?_ (by omega) (by omega) (by omega) HKK.out
  intro v4 v9 v10 v11 v12 v13 v34 v35 v36 v37 v38 v39 v40 v41 v42 v43 v44 v45 v46 v47 v48 v49 v50 v51 v52 v53 v54 v55 v56 v57 v58 v59 v60 v61 v62 v63 v64 v65 v66 v67 v68 v69 v70 v71 v72 v73 v74 v75 v76 v77 v78 v79 v80 v81 v82 v83 v84 v85 v86 v87 v88 v89 v90 v91 v92 v93 v94 v95 v96 v97 v98 v99 v100 v101 v102 v103 v104 v105 v106 v107 v108 v109 v110 v111 v112 v113 v114 v115 v116 v117 v118 v119 v120 v121 v122 v123 v124 v125 v126 v127 v128 v129 v130 v131 v132 v133 v134 v135 v136 v137 v138 v139 v140 v141 v142 v143 v144 v145 v146 v147 v148 v149 v150 v151 v152 v153 v154 v155 v156 v157 v158 v159 v160 v161 v162 v163 v164 v165 v166 v167 v168 v169 v170 v171 v172 v173 v174 v175 v176 v177 v178 v179 v180 v181 v182 v183 v184 v185 v186 v187 v188 v189 v190 W hrel
  clear hM
  obtain ⟨kk2, va2, gia2, gwa2, ka2, gib2, gwb2, kb2, y, N', hM, hok, hPI, hN'⟩ := hrel
  obtain ⟨z, hz, hPz, hsa, hsb⟩ := hPI.sends
  have HS := Lib.hid (fun (W : World) (h : MemX E w0 W (prM ⟨gp, ga, gia2, gwa2, ka2, gb, gib2, gwb2, kb2, va2⟩ y (atR gx 40 [.pointer (some ⟨gp, 0, none⟩)] :: atR gk 3 [.int .i64 kk2] :: atR gs 70 cs :: m))) => sends_any ⟨gp, ga, gia2, gwa2, ka2, gb, gib2, gwb2, kb2, va2⟩ y z _ W h hok (t + 1) hPI.ca hPI.cb (by have := HT1.out; omega) hz hPI.ok (by have := hPI.len; have := HT1.out; omega) hsa hsb)
  have HPZ := Lib.hid (show PI iss irs N' (t + 1) z ∧ N' ≤ N + s.size from ⟨hPz, hN'⟩)
  clear hok hPI hN' hz hPz hsa hsb
  go_step
  go_wp2_with (first | go_skip | ((with_reducible refine at_load_ ?_); refine at_wanted_ (by rfl) ?_; first | (refine lM 0 hM rfl rfl rfl rfl ?_)) | (go_at_call 21; refine (HS.out _ (do_to hM)).mono ?_; clear hM; rintro e W ⟨ka3, kb3, va3, rfl, hM, hok3⟩; have HOK3 := Lib.hid hok3; clear hok3; dsimp only))
  refine bodyPost_ret (v := .bool true) (by simp [results, Try.results32, go_sem]) rfl ?_
  first | exact ⟨rfl, _, z, do_end (do_fro hM), HOK3.out, rfl, N', HPZ.out.1, HPZ.out.2⟩ | exact ⟨rfl, _, z, N', do_end (do_fro hM), HOK3.out, rfl, HPZ.out.1, HPZ.out.2⟩
end Go.Proofs.Ytfpifahkpkjfgaa
/- conn: does: the walk of ConnStream. Written by my gencn.py. -/
namespace Go.Proofs.Ytfpifahkpkjfgaa
open Go.RowKit Go.Lib
set_option linter.unusedVariables false
set_option linter.unusedSimpArgs false
set_option linter.unusedSectionVars false
set_option maxRecDepth 100000
theorem prM_range {E : Nat → Prop} {w W : World} {L : KPl} {x : KPr} {g : Nat} {T : TypeId} {cs : List Value} (h : MemX E w W (prM L x [atR g T cs])) : W.rangeAt g 0 cs := by
 rw [← prM_app] at h
 exact (show MemX E w W (atR g T cs :: prM L x []) from h.perm List.perm_append_comm).range 0 rfl
set_option maxHeartbeats 16000000 in
theorem w_ConnStream (a0 : Int) (a1 : Int) (a2 : Int) (a3 : Int) (A4 : Option Addr) (n4 c4 : Nat) (css4 : Nat → List Value) (w : World) (ha0 : 0 ≤ a0) (ha0' : a0 ≤ 4294967295) (ha1 : 0 ≤ a1) (ha1' : a1 ≤ 4294967295) (ha2 : -9223372036854775808 ≤ a2) (ha2' : a2 ≤ 9223372036854775807) (ha3 : -9223372036854775808 ≤ a3) (ha3' : a3 ≤ 9223372036854775807) (hR4 : Rows_ w A4 n4 ksStep css4) (hl4 : n4 ≤ 1048576) (hb4 : ∀ k, k ≤ n4 → sumS css4 k ≤ 1048576) :
  Calls Try.prog 10 #[.int .u32 a0, .int .u32 a1, .int .i64 a2, .int .i64 a3, .slice A4 n4 c4] w fun e w' => e = .returned (.bool true) ∧ Below w.heap.size w w' := by
 have hM := Mem.nil w
 obtain ⟨iss, rfl⟩ : ∃ z, z = a0 := ⟨_, rfl⟩
 obtain ⟨irs, rfl⟩ : ∃ z, z = a1 := ⟨_, rfl⟩
 have hPA := fun W => paired_any iss irs a2 a3 W ha0 ha0' ha1 ha1' ha2 ha2' ha3 ha3'
 have hP0 : PI iss irs 0 0 (pr0 iss irs (8 + a2 % 993) (8 + a3 % 993)) := pi_start ⟨ha0, ha0'⟩ ⟨ha1, ha1'⟩ (by omega) (by omega)
 obtain ⟨x0, hx0⟩ : ∃ z, z = pr0 iss irs (8 + a2 % 993) (8 + a3 % 993) := ⟨_, rfl⟩
 rw [← hx0] at hP0 hPA
 obtain ⟨y0, hs0, hPy, hsa, hsb⟩ := hP0.sends
 have HPA := Lib.hid hPA
 have HS0 := Lib.hid (fun (W : World) (L : KPl) (h : Mem w W (prM L x0 [])) (hk : L.ok x0) => sends_any L x0 y0 [] W h hk 0 hP0.ca hP0.cb (by decide) hs0 hP0.ok (by have := hP0.len; omega) hsa hsb)
 have HPY := Lib.hid hPy
 have HL := Lib.hid hl4
 have HB4 := Lib.hid hb4
 clear hPA hP0 hx0 hs0 hPy hsa hsb ha0 ha0' ha1 ha1' ha2 ha2' ha3 ha3' hl4 hb4
 go_enter Try.func10, Try.ntmps10
 go_upto_region 4 with (first | go_skip | (go_at_call 20; refine (HPA.out _).mono ?_; rintro e W ⟨⟨gp, ga, gia, gwa, ka, gb, gib, gwb, kb, va⟩, rfl, hN, hok⟩; have HOK := Lib.hid hok; clear hok hM; have hM := hN; clear hN; dsimp only))
 (go_wp2_with (first | go_skip | (go_at_call 21; refine (HS0.out _ _ hM HOK.out).mono ?_; clear hM HOK; rintro e W ⟨ka1, kb1, va1, rfl, hM, hok⟩; have HOK1 := Lib.hid hok; clear hok; dsimp only at hM ⊢)))
 clear HPA HS0
 go_loopg [31] n4 (fun gh i wr => ∃ (k : Nat) (L : KPl) (x : KPr) (N : Nat), gh = n4 - k ∧ k ≤ n4 ∧ i = .int .i64 k ∧ Mem w wr (prM L x []) ∧ Hid (L.gp = gp ∧ KPl.ok L x ∧ PI iss irs N k x ∧ N ≤ sumS css4 k))
 case atStart => exact ⟨0, _, y0, 0, by omega, by omega, rfl, hM, Lib.hid ⟨rfl, HOK1.out, HPY.out, Nat.zero_le _⟩⟩
 case round =>
  clear hM HOK1
  obtain ⟨k, L, x, N, hgk, hk, rfl, hM, HR⟩ := hrel
  have HGK := Lib.hid hgk
  clear hgk
  by_cases hlt : k < n4
  ·have hBk := hM.b
   obtain ⟨b, off, hA, hrg⟩ := hR4.at_ k hlt
   subst hA
   have hrg : wr.rangeAt b (off + k * 45) (css4 k) := range_kept hrg hBk
   have hokx := hR4.ok k hlt
   have hlen : (css4 k).length = 45 := okAll_len hokx
   have hone := all_oneCell_toArray (okAll_one hokx)
   have hi1 : (Try.prog.info? 70).map (·.size) = some (css4 k).length := by rw [hlen]; exact info_Step
   have hi2 : (Try.prog.info? 70).map (·.size) = some (css4 k).toArray.size := by rw [List.size_toArray]; exact hi1
   go_upto_region 9 with (first | (refine wpList_load_mid rfl 70 (.tmp 33) rfl b (off + k * 45) rfl (css4 k) _ hrg Try.underlying70 rfl hi1 ?_) | (refine wpList_store_mid rfl 70 (.tmp 14) (.tmp 34) rfl _ 0 (css4 k).toArray rfl rfl (there_new _ _ _ _ (by rw [List.size_toArray, hlen]; exact Nat.le_refl _)) hi2 hone ?_))
   refine wp_gen (fun W => MemX noE w W ((prM L x []) ++ [atR wr.heap.size 70 (css4 k)])) ?hgen ?_
   case hgen => (refine hM.boxed _ _ _ ?_; rw [hlen]; rfl)
   intro W2 hM2
   obtain ⟨xs, hxs, hxs1⟩ := step_str hokx 4 rfl
   rw [prM_app] at hM2
   have hsum := HB4.out (k + 1) (by omega)
   have hsz : strZ (css4 k) = xs.size := strZ_is hxs
   simp only [sumS] at hsum
   rw [hsz] at hsum
   have hN := HR.out.2.2.2
   have HSZ := Lib.hid hsz
   have HDO := Lib.hid (fun (W : World) (h : Mem w W (prM L x [atR wr.heap.size 70 (css4 k)])) => (by
    have h2 := does_any L x [atR wr.heap.size 70 (css4 k)] W h HR.out.2.1 HR.out.2.2.1 (css4 k) hokx xs hxs (by omega) (by have := HL.out; omega)
    rw [HR.out.1] at h2
    exact h2 : Calls Try.prog 32 #[.pointer (some ⟨gp, 0, none⟩), .agg (css4 k).toArray] W fun e w' => e = .returned (.bool true) ∧ ∃ (L' : KPl) (y : KPr) (N' : Nat), Mem w w' (prM L' y [atR wr.heap.size 70 (css4 k)]) ∧ KPl.ok L' y ∧ L'.gp = gp ∧ PI iss irs N' ((k : Int) + 1) y ∧ N' ≤ N + xs.size))
   have HRG := Lib.hid (fun (W : World) (h : Mem w W (prM L x [atR wr.heap.size 70 (css4 k)])) => prM_range h)
   clear hM hsum hsz hN hxs hxs1 hBk hokx
   have hM := hM2
   clear hM2
   have hjb : (k : Int) + 1 ≤ 9223372036854775807 := by have := HL.out; omega
   go_wp2_with (first | go_skip | ((with_reducible refine at_load_ (T := 70) ?_); refine wpList_load_mid rfl 70 (.tmp 14) rfl wr.heap.size 0 rfl (css4 k) _ (HRG.out _ hM) Try.underlying70 rfl hi1 ?_) | (go_at_call 32; refine (HDO.out _ hM).mono ?_; clear hM; rintro e W ⟨rfl, L', y, N', hM, hok, hgp, hPI, hN'⟩; have HR' := Lib.hid (show L'.gp = gp ∧ KPl.ok L' y ∧ PI iss irs N' ((k : Int) + 1) y ∧ N' ≤ N + xs.size from ⟨hgp, hok, hPI, hN'⟩); clear hok hgp hPI hN'; dsimp only))
   rw [← prM_app] at hM
   have hM3 := MemX.init hM
   clear hM
   go_roundg (n4 - (k + 1))
   case measure => have := HGK.out; omega
   case rel => exact ⟨k + 1, L', y, N', rfl, by omega, by go_num, hM3, Lib.hid ⟨HR'.out.1, HR'.out.2.1, by have h := HR'.out.2.2.1; rw [show ((k + 1 : Nat) : Int) = (k : Int) + 1 by omega]; exact h, by have h1 := HR'.out.2.2.2; have h2 := HR.out.2.2.2; simp only [sumS]; rw [HSZ.out]; omega⟩⟩
  ·go_wp2_with fail
   refine bodyPost_ret (v := .bool true) (by simp [results, Try.results10, go_sem]) rfl ?_
   exact ⟨rfl, hM.b⟩
end Go.Proofs.Ytfpifahkpkjfgaa
