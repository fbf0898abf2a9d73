/- The walk of PollTold: it returns true. Written by my genptd.py. -/
import Derived.Test.YtgdfjkdcdfmifaaPtE
import Derived.Test.YtgdfjkdcdfmifaaStepM
import Derived.Test.YtgdfjkdcdfmifaaStep
import Derived.Test.YtgdfjkdcdfmifaaRest
import Derived.Test.YtgdfjkdcdfmifaaKit
import Derived.Test.YtgdfjkdcdfmifaaTy
import Derived.Deep.CutBlock
namespace Go.Proofs.Ytgdfjkdcdfmifaa
open Go.RowKit Go.Lib
set_option linter.unusedVariables false
set_option linter.unusedSimpArgs false

set_option maxRecDepth 100000 in
set_option maxHeartbeats 16000000 in
theorem w_PollTold (A0 : Option Addr) (n0 c0 : Nat) (css0 : Nat → List Value) (w : World) (hR0 : Rows_ w A0 n0 ksStep css0) (hl0 : n0 ≤ 140737488351232) :
    Calls Try.prog 12 #[.slice A0 n0 c0] w fun e w' => e = .returned (.bool true) ∧ Below w.heap.size w w' := by
  have hM := Mem.nil w
  go_enter Try.func12, Try.ntmps12
  go_wp2_with fail
  refine (newpoll_any _).mono ?_
  rintro e W1 ⟨g, rfl, hM⟩
  replace hM := pl_start hM
  dsimp only
  have HS := Lib.hid (fun W h => Set_any g (.slice none 0 0) [] (-1) 0 false W h pinv_nil)
  have HS0 := Lib.hid (fun (W : World) h => (HS.out W h).mono (fun e w' (h2 : ∃ n v' ws', e = .returned (.int .i64 n) ∧ PlPre W w' g (.slice none 0 0) [] v' ws' ∧ SetRel [] (-1) 0 false n ws') => (show e = .returned (.int .i64 1) ∧ ∃ v', PlPre W w' g (.slice none 0 0) [] v' [] from by
    obtain ⟨n, v', ws', rfl, h3, h4⟩ := h2
    rcases h4 with ⟨rfl, _, rfl⟩ | ⟨_, hf, _⟩
    · exact ⟨rfl, v', h3⟩
    · omega)))
  clear HS
  go_upto_region 4 with (first | (go_at_call 41; refine (HS0.out _ (pl_hand hM)).mono ?_; rintro x W ⟨rfl, v1, hM6⟩; replace hM := pl_put hM hM6; clear hM6; dsimp only))
  clear HS0
  go_upto_region 5 with (first | ((with_reducible refine at_makeMap_ ?_); refine wpList_makeMap_m rfl rfl Try.prog 3 fInt fSP (pl_end hM) ?_; clear hM; intro gm W hM))
  replace hM := hM.perm (swap_perm _ [_])
  go_wp2_with fail
  go_loopg [27] n0 (fun gh i wr => ∃ (k : Nat) (ws zs : List KW) (v : Value) (m : List (Int × Nat)) (bs : Int → Nat), gh = n0 - k ∧ k ≤ n0 ∧ i = .int .i64 k ∧ Mem w wr (mapR Try.prog 3 fInt fSP gm m :: (pollL g v ws ++ zs.map (sR bs))) ∧ Hid (PInv ws) ∧ Hid (Acc m bs ws zs))
  case atStart => exact ⟨0, [], [], _, [], _, by omega, by omega, rfl, by simpa using hM, Lib.hid pinv_nil, Lib.hid acc_nil⟩
  case round =>
    clear hM
    obtain ⟨k, ws, zs, v, m, bs, hgk, hk, rfl, hM, HI, HA⟩ := hrel
    have HGK := Lib.hid hgk
    clear hgk
    by_cases hlt : k < n0
    · have hBk := hM.b
      obtain ⟨b, off, hA, hrg⟩ := hR0.at_ k hlt
      subst hA
      have hrg : wr.rangeAt b (off + k * 45) (css0 k) := range_kept hrg hBk
      have hokx := hR0.ok k hlt
      have hlen : (css0 k).length = 45 := okAll_len hokx
      have hone := all_oneCell_toArray (okAll_one hokx)
      have hi1 : (Try.prog.info? 40).map (·.size) = some (css0 k).length := by rw [hlen]; exact info_Step
      have hi2 : (Try.prog.info? 40).map (·.size) = some (css0 k).toArray.size := by rw [List.size_toArray]; exact hi1
      go_upto_region 8 with (first | (refine wpList_load_mid rfl 40 (.tmp 29) rfl b (off + k * 45) rfl (css0 k) _ hrg Try.underlying40 rfl hi1 ?_) | (refine wpList_store_mid rfl 40 (.tmp 6) (.tmp 30) rfl _ 0 (css0 k).toArray rfl rfl (there_new _ _ _ _ (by rw [List.size_toArray, hlen]; exact Nat.le_refl _)) hi2 hone ?_))
      refine wp_gen (fun W => MemX noE w W ((mapR Try.prog 3 fInt fSP gm m :: (pollL g v ws ++ zs.map (sR bs))) ++ [atR wr.heap.size 40 (css0 k)])) ?hgen ?_
      case hgen => (refine hM.boxed _ _ _ ?_; rw [hlen]; rfl)
      intro W2 hM2
      obtain ⟨kd, hkd, hkd1, hkd2⟩ := step_int hokx 0 rfl
      obtain ⟨xa, hxa, hxa1, hxa2⟩ := step_int hokx 1 rfl
      obtain ⟨xb, hxb, hxb1, hxb2⟩ := step_int hokx 2 rfl
      obtain ⟨xo, hxo⟩ := step_bool hokx 3 rfl
      replace hM2 := last_front hM2
      have HKO := Lib.hid (show KeyOk Try.prog 3 fInt xa from keyOk_int ⟨hxa1, hxa2⟩)
      have hd : kd % 5 = 0 ∨ kd % 5 = 1 ∨ kd % 5 = 2 ∨ kd % 5 = 3 ∨ kd % 5 = 4 := by omega
      have HD := Lib.hid hd
      have HKD := Lib.hid hkd
      clear hd hkd hBk hM
      have hM := hM2
      clear hM2
      rcases atW_cases ws xa with ⟨k0, x, hat, hk0, hx⟩ | ⟨hat, hno⟩
      · have HG := Lib.hid (show mGet m xa = some (bs xa) from by rw [← hx]; exact HA.out.get x (List.mem_of_getElem? hk0))
        have HAT := Lib.hid hat
        have HK0 := Lib.hid hk0
        have HX := Lib.hid hx
        clear hat hk0 hx
        go_upto_region 9 with         (first
          | go_skip
          | ((with_reducible refine at_lookup_ ?_); refine wpList_lookup_m (by rfl) _ _ false rfl mapTy_sock (.pointer none) (fun _ => by kernel_rfl) 1 hM rfl rfl xa rfl HKO.out ?_; simp only [HG.out, Option.elim, fSP])
          | ((with_reducible refine at_box_ ?_); refine wpList_box_mem rfl _ _ rfl _ rfl hM ?_; clear hM; intro gb W hM; first | (simp only [List.nil_append] at hM) | (simp only [List.cons_append, List.nil_append] at hM))
          | ((with_reducible refine at_load_ ?_); refine at_wanted_ (by rfl) ?_; refine wpList_loadf_mem (by go_simp) _ _ rfl (by kernel_rfl) 0 _ _ _ _ _ hM rfl rfl (by first | rfl | assumption) ?_)
          | ((with_reducible refine at_store_ ?_); refine wpList_store1_mem rfl _ _ _ rfl 0 _ _ _ _ _ hM rfl rfl (by first | ((conv => lhs; whnf); done) | ((conv => lhs; whnf); rfl)) (by rfl) (by rfl) (by kernel_rfl) rfl ?_; clear hM; intro W hM; simp only [List.set_cons_succ, List.set_cons_zero] at hM))
        go_wp2_with (refine wpList_load_mid rfl 40 (.tmp 6) rfl wr.heap.size 0 rfl (css0 k) _ (hM.range 0 rfl) Try.underlying40 rfl hi1 ?_)
        refine (Of_any (css0 k) kd 5 _ HKD.out hkd1 hkd2 (by omega) (by omega)).mono ?_
        rintro e1 w4 ⟨rfl, hB4⟩
        have hM4 : Mem w w4 (ptM g gm wr.heap.size (css0 k) v ws m bs zs) := hM.kept hB4
        clear hM hB4
        go_upto_block 2 with (fail)
        refine pt_all_old w w4 g gm _ v _ ws zs m bs _ _ xa xb xo _ hM4 HI HA hxa hxb hxo HKO (Lib.hid (by intro _ d _ _ _ h; cases d <;> exact h)) ?_ HD k0 x HAT.out HK0.out HX.out rfl
        intro v2 v7 v8 v9 v10 v12 v13 v14 v15 v37 v38 v39 v40 v41 v42 v43 v44 v45 v46 v47 v48 v49 v50 v51 v52 v53 v54 v55 v56 v57 v58 v59 v60 v61 v62 v63 v64 v65 v66 v67 v68 v69 v70 v71 v72 v73 v74 v75 v76 v77 v78 v79 v80 v81 v82 v83 v84 v85 v86 v87 v88 v89 v90 v91 v92 v93 v94 v95 v96 v97 v98 v99 v100 v101 v102 v103 v104 v105 v106 v107 v108 v109 v110 v111 v112 v113 v114 v115 v116 v117 v118 v119 v120 v121 v122 v123 v124 v125 v126 v127 v128 v129 v130 v131 v132 v133 v134 v135 v136 v137 v138 v139 v140 v141 v142 v143 v144 v145 v146 v147 v148 v149 v150 v151 v152 v153 v154 v155 v156 v157 v158 v159 v160 v161 v162 v163 v164 v165 v166 v167 v168 v169 v170 v171 v172 v173 v174 v175 v176 v177 v178 v179 v180 v181 v182 v183 v184 v185 v186 v187 v188 v189 v190 v191 v192 v193 v194 v195 v196 v197 v198 v199 v200 v201 v202 v203 v204 v205 v206 v207 v208 v209 v210 v211 v212 v213 v214 v215 v216 v217 v218 W hrel
        obtain ⟨v', ws', m', bs', zs', hM, hI', hA'⟩ := hrel
        have HI' := Lib.hid hI'
        have HA' := Lib.hid hA'
        have HMM := Lib.hid ((show MemX noE w W ([atR wr.heap.size 40 (css0 k)] ++ (mapR Try.prog 3 fInt fSP gm m' :: (pollL g v' ws' ++ zs'.map (sR bs')))) from hM).drop_)
        clear hM hI' hA'
        go_step
        go_wp2_with fail
        go_roundg (n0 - (k + 1))
        case measure => have := HGK.out; omega
        case rel => exact ⟨k + 1, ws', zs', v', m', bs', rfl, by omega, by go_num, HMM.out, HI', HA'⟩
      · have HG := Lib.hid (show mGet m xa = none from HA.out.none hno)
        have HAT := Lib.hid hat
        have HNO := Lib.hid hno
        clear hat hno
        go_upto_region 9 with         (first
          | go_skip
          | ((with_reducible refine at_lookup_ ?_); refine wpList_lookup_m (by rfl) _ _ false rfl mapTy_sock (.pointer none) (fun _ => by kernel_rfl) 1 hM rfl rfl xa rfl HKO.out ?_; simp only [HG.out, Option.elim, fSP])
          | ((with_reducible refine at_box_ ?_); refine wpList_box_mem rfl _ _ rfl _ rfl hM ?_; clear hM; intro gb W hM; first | (simp only [List.nil_append] at hM) | (simp only [List.cons_append, List.nil_append] at hM))
          | ((with_reducible refine at_load_ ?_); refine at_wanted_ (by rfl) ?_; refine wpList_loadf_mem (by go_simp) _ _ rfl (by kernel_rfl) 0 _ _ _ _ _ hM rfl rfl (by first | rfl | assumption) ?_)
          | ((with_reducible refine at_store_ ?_); refine wpList_store1_mem rfl _ _ _ rfl 0 _ _ _ _ _ hM rfl rfl (by first | ((conv => lhs; whnf); done) | ((conv => lhs; whnf); rfl)) (by rfl) (by rfl) (by kernel_rfl) rfl ?_; clear hM; intro W hM; simp only [List.set_cons_succ, List.set_cons_zero] at hM))
        go_wp2_with (refine wpList_load_mid rfl 40 (.tmp 6) rfl wr.heap.size 0 rfl (css0 k) _ (hM.range 0 rfl) Try.underlying40 rfl hi1 ?_)
        refine (Of_any (css0 k) kd 5 _ HKD.out hkd1 hkd2 (by omega) (by omega)).mono ?_
        rintro e1 w4 ⟨rfl, hB4⟩
        have hM4 : Mem w w4 (ptM g gm wr.heap.size (css0 k) v ws m bs zs) := hM.kept hB4
        clear hM hB4
        go_upto_block 2 with (fail)
        refine pt_all_none w w4 g gm _ v _ ws zs m bs _ _ xa xb xo _ hM4 HI HA hxa hxb hxo HKO (Lib.hid (by intro _ d _ _ _ h; cases d <;> exact h)) ?_ HD HAT.out HNO.out rfl
        intro v2 v7 v8 v9 v10 v12 v13 v14 v15 v37 v38 v39 v40 v41 v42 v43 v44 v45 v46 v47 v48 v49 v50 v51 v52 v53 v54 v55 v56 v57 v58 v59 v60 v61 v62 v63 v64 v65 v66 v67 v68 v69 v70 v71 v72 v73 v74 v75 v76 v77 v78 v79 v80 v81 v82 v83 v84 v85 v86 v87 v88 v89 v90 v91 v92 v93 v94 v95 v96 v97 v98 v99 v100 v101 v102 v103 v104 v105 v106 v107 v108 v109 v110 v111 v112 v113 v114 v115 v116 v117 v118 v119 v120 v121 v122 v123 v124 v125 v126 v127 v128 v129 v130 v131 v132 v133 v134 v135 v136 v137 v138 v139 v140 v141 v142 v143 v144 v145 v146 v147 v148 v149 v150 v151 v152 v153 v154 v155 v156 v157 v158 v159 v160 v161 v162 v163 v164 v165 v166 v167 v168 v169 v170 v171 v172 v173 v174 v175 v176 v177 v178 v179 v180 v181 v182 v183 v184 v185 v186 v187 v188 v189 v190 v191 v192 v193 v194 v195 v196 v197 v198 v199 v200 v201 v202 v203 v204 v205 v206 v207 v208 v209 v210 v211 v212 v213 v214 v215 v216 v217 v218 W hrel
        obtain ⟨v', ws', m', bs', zs', hM, hI', hA'⟩ := hrel
        have HI' := Lib.hid hI'
        have HA' := Lib.hid hA'
        have HMM := Lib.hid ((show MemX noE w W ([atR wr.heap.size 40 (css0 k)] ++ (mapR Try.prog 3 fInt fSP gm m' :: (pollL g v' ws' ++ zs'.map (sR bs')))) from hM).drop_)
        clear hM hI' hA'
        go_step
        go_wp2_with fail
        go_roundg (n0 - (k + 1))
        case measure => have := HGK.out; omega
        case rel => exact ⟨k + 1, ws', zs', v', m', bs', rfl, by omega, by go_num, HMM.out, HI', HA'⟩
    · go_wp2_with fail
      go_ret
      exact ⟨rfl, hM.b⟩
end Go.Proofs.Ytgdfjkdcdfmifaa
