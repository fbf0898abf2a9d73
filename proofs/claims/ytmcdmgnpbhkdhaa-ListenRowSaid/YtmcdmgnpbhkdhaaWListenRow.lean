/- The walk of ListenRow: it returns true. -/
import Derived.Test.YtmcdmgnpbhkdhaaLisX
namespace Go.Proofs.Ytmcdmgnpbhkdhaa
open Go.RowKit Go.Lib
set_option linter.unusedVariables false
set_option linter.unusedSimpArgs false

set_option maxRecDepth 100000 in
set_option maxHeartbeats 8000000 in
theorem w_ListenRow (a0 : Int) (A1 : Option Addr) (n1 c1 : Nat) (css1 : Nat → List Value) (w : World) (ha0 : -9223372036854775808 ≤ a0) (ha0' : a0 ≤ 9223372036854775807) (hR1 : Rows_ w A1 n1 ksStep css1) (hl1 : n1 ≤ 140737488351232) :
    Calls Try.prog 6 #[.int .i64 a0, .slice A1 n1 c1] w fun e w' => e = .returned (.bool true) ∧ Below w.heap.size w w' := by
  by_cases hb : 1 ≤ a0 ∧ a0 ≤ 8
  · obtain ⟨b1, b2⟩ := hb
    go_enter Try.func6, Try.ntmps6
    go_wp2_with fail
    refine (newlis_yes a0 _ b1 b2).mono ?_
    rintro e W1 ⟨g, gm, rfl, hM1⟩
    dsimp only
    go_wp2_with fail
    refine (newlis_no 0 _ (.inl (by decide))).mono ?_
    rintro e W2 ⟨rfl, hB2⟩
    have hM2 := (hM1.kept hB2).rowNil 2 cEnd
    clear hB2 hM1
    dsimp only
    go_wp2_with fail
    go_loopg [45, 9] n1 (fun gh i row wr => ∃ (k : Nat) (q : KLis) (v rv : Value), gh = n1 - k ∧ k ≤ n1 ∧ i = .int .i64 k ∧ rv = row ∧ Mem w wr [lisA g q gm v, lisM q gm, lisW q v, rowR 2 cEnd rv (q.wt.map dEnd)] ∧ LInv a0 q)
    case atStart => exact ⟨0, newLis a0, _, _, by omega, by omega, rfl, rfl, hM2, linv_new b1 b2⟩
    case round =>
      clear hM2
      obtain ⟨k, q, v, rv, hgk, hk, rfl, hrv, hM, hI⟩ := hrel
      subst hrv
      have HGK := Lib.hid hgk
      clear hgk
      by_cases hlt : k < n1
      · have hBk := hM.b
        obtain ⟨b, off, hA, hrg⟩ := hR1.at_ k hlt
        subst hA
        have hrg : wr.rangeAt b (off + k * 45) (css1 k) := range_kept hrg hBk
        have hokx := hR1.ok k hlt
        have hlen : (css1 k).length = 45 := okAll_len hokx
        have hone := all_oneCell_toArray (okAll_one hokx)
        have hi1 : (Try.prog.info? 50).map (·.size) = some (css1 k).length := by rw [hlen]; exact info_Step
        have hi2 : (Try.prog.info? 50).map (·.size) = some (css1 k).toArray.size := by rw [List.size_toArray]; exact hi1
        go_upto_region 11 with (first | (refine wpList_load_mid rfl 50 (.tmp 47) rfl b (off + k * 45) rfl (css1 k) _ hrg Try.underlying50 rfl hi1 ?_) | (refine wpList_store_mid rfl 50 (.tmp 11) (.tmp 48) rfl _ 0 (css1 k).toArray rfl rfl (there_new _ _ _ _ (by rw [List.size_toArray, hlen]; exact Nat.le_refl _)) hi2 hone ?_))
        refine wp_gen (fun W => MemX noE w W [lisA g q gm v, lisM q gm, lisW q v, rowR 2 cEnd rv (q.wt.map dEnd), atR wr.heap.size 50 (css1 k)]) ?hgen ?_
        case hgen => exact hM.boxed _ _ _ (by rw [hlen]; rfl)
        intro W2 hM2
        obtain ⟨kd, hkd, hkd1, hkd2⟩ := step_int hokx 0 rfl
        obtain ⟨xa, hxa, hxa1, hxa2⟩ := step_int hokx 1 rfl
        obtain ⟨e, he, he34⟩ := step_end hokx
        go_wp2_with (refine wpList_load_mid rfl 50 (.tmp 11) rfl wr.heap.size 0 rfl (css1 k) _ (hM2.range 4 rfl) Try.underlying50 rfl hi1 ?_)
        refine (Of_any (css1 k) kd 4 _ hkd hkd1 hkd2 (by omega) (by omega)).mono ?_
        rintro e1 w4 ⟨rfl, hB4⟩
        have hM4 : Mem w w4 (lrM g gm wr.heap.size (css1 k) q v rv) := hM2.kept hB4
        clear hM2 hM hB4 hBk
        have hd : kd % 4 = 0 ∨ kd % 4 = 1 ∨ kd % 4 = 2 ∨ kd % 4 = 3 := by omega
        go_upto_block 2 with (fail)
        go_cut [9] (fun row W => lrRel w g gm wr.heap.size (css1 k) a0 row W)
        case first =>
          rcases hd with h | h | h | h
          · refine lr_zero w w4 g gm wr.heap.size q v rv (css1 k) a0 (kd % 4) xa e _ _ hM4 hI he he34 hxa ?_ h
            intro v4 v9 v12 v14 v15 v16 v17 v51 v52 v53 v54 v55 v56 v57 v58 v59 v60 v61 v62 v63 v64 v65 v66 v67 v68 v69 v70 v71 v72 v73 v74 v75 v76 v77 v78 v79 v80 v81 v82 v83 v84 v85 v86 v87 v88 v89 v90 v91 v92 v93 v94 v95 v96 v97 v98 v99 v100 v101 v102 v103 v104 v105 v106 v107 v108 v109 v110 v111 v112 v113 v114 v115 v116 v117 v118 v119 v120 v121 v122 v123 v124 v125 v126 v127 W hrel
            go_step
            go_meet
            case rel => exact hrel
          · refine lr_one w w4 g gm wr.heap.size q v rv (css1 k) a0 (kd % 4) xa e _ _ hM4 hI he he34 hxa ?_ h
            intro v4 v9 v12 v14 v15 v16 v17 v51 v52 v53 v54 v55 v56 v57 v58 v59 v60 v61 v62 v63 v64 v65 v66 v67 v68 v69 v70 v71 v72 v73 v74 v75 v76 v77 v78 v79 v80 v81 v82 v83 v84 v85 v86 v87 v88 v89 v90 v91 v92 v93 v94 v95 v96 v97 v98 v99 v100 v101 v102 v103 v104 v105 v106 v107 v108 v109 v110 v111 v112 v113 v114 v115 v116 v117 v118 v119 v120 v121 v122 v123 v124 v125 v126 v127 W hrel
            go_step
            go_meet
            case rel => exact hrel
          · refine lr_two w w4 g gm wr.heap.size q v rv (css1 k) a0 (kd % 4) xa e _ _ hM4 hI he he34 hxa ?_ h
            intro v4 v9 v12 v14 v15 v16 v17 v51 v52 v53 v54 v55 v56 v57 v58 v59 v60 v61 v62 v63 v64 v65 v66 v67 v68 v69 v70 v71 v72 v73 v74 v75 v76 v77 v78 v79 v80 v81 v82 v83 v84 v85 v86 v87 v88 v89 v90 v91 v92 v93 v94 v95 v96 v97 v98 v99 v100 v101 v102 v103 v104 v105 v106 v107 v108 v109 v110 v111 v112 v113 v114 v115 v116 v117 v118 v119 v120 v121 v122 v123 v124 v125 v126 v127 W hrel
            go_step
            go_meet
            case rel => exact hrel
          · rcases hwt : q.wt with _ | ⟨d, r⟩
            · refine lr_three_none w w4 g gm wr.heap.size q v rv (css1 k) a0 (kd % 4) _ _ (by intro _ _ _ _ _ h; exact h) hM4 hI ?_ h hwt
              intro v4 v9 v12 v14 v15 v16 v17 v51 v52 v53 v54 v55 v56 v57 v58 v59 v60 v61 v62 v63 v64 v65 v66 v67 v68 v69 v70 v71 v72 v73 v74 v75 v76 v77 v78 v79 v80 v81 v82 v83 v84 v85 v86 v87 v88 v89 v90 v91 v92 v93 v94 v95 v96 v97 v98 v99 v100 v101 v102 v103 v104 v105 v106 v107 v108 v109 v110 v111 v112 v113 v114 v115 v116 v117 v118 v119 v120 v121 v122 v123 v124 v125 v126 v127 W hrel
              go_step
              go_meet
              case rel => exact hrel
            · refine lr_three_some w w4 g gm wr.heap.size q v rv (css1 k) a0 (kd % 4) _ _ (by intro _ _ _ _ _ h; exact h) hM4 hI ?_ h d r hwt
              intro v4 v9 v12 v14 v15 v16 v17 v51 v52 v53 v54 v55 v56 v57 v58 v59 v60 v61 v62 v63 v64 v65 v66 v67 v68 v69 v70 v71 v72 v73 v74 v75 v76 v77 v78 v79 v80 v81 v82 v83 v84 v85 v86 v87 v88 v89 v90 v91 v92 v93 v94 v95 v96 v97 v98 v99 v100 v101 v102 v103 v104 v105 v106 v107 v108 v109 v110 v111 v112 v113 v114 v115 v116 v117 v118 v119 v120 v121 v122 v123 v124 v125 v126 v127 W hrel
              go_step
              go_meet
              case rel => exact hrel
        case rest =>
          obtain ⟨q', v', hM, hI'⟩ := hcut
          have HWT := Lib.hid (fun W (h : LisPre W W g gm q' v' q' v') => Waits_any g gm q' v' W h hI'.ok)
          have w1 := hI'.h
          have w2 := hI'.w
          obtain ⟨A, cap, hrv⟩ := (hM.row 3 rfl).form
          rw [List.length_map] at hrv
          subst hrv
          have HI' := Lib.hid hI'
          clear hI' hI
          have HMM := Lib.hid (fun W (h : Mem w W (lrM g gm wr.heap.size (css1 k) q' v' (.slice A q'.wt.length cap))) => (h.take_ 4 : Mem w W [lisA g q' gm v', lisM q' gm, lisW q' v', rowR 2 cEnd (.slice A q'.wt.length cap) (q'.wt.map dEnd)]))
          generalize q'.wt.length = m at *
          generalize q'.half.length = n at *
          go_wp2_with (go_at_call 30; refine (HWT.out _ (lis_hand _ hM)).mono ?_; rintro x W ⟨rfl, hM6⟩; replace hM := lis_put _ hM hM6; clear hM6; dsimp only)
          go_roundg (n1 - (k + 1))
          case measure => have := HGK.out; omega
          case rel => exact ⟨k + 1, q', v', _, rfl, by omega, by go_num, rfl, HMM.out _ hM, HI'.out⟩
      · go_wp2_with fail
        go_ret
        exact ⟨rfl, hM.b⟩
  · have hb' : a0 < 1 ∨ 8 < a0 := by omega
    go_enter Try.func6, Try.ntmps6
    go_wp2_with fail
    refine (newlis_no a0 _ hb').mono ?_
    rintro e W1 ⟨rfl, hB1⟩
    dsimp only
    go_wp2_with fail
    refine (newlis_no 0 _ (.inl (by decide))).mono ?_
    rintro e W2 ⟨rfl, hB2⟩
    dsimp only
    go_wp2_with fail
    go_ret
    exact ⟨rfl, by repeat' (first | with_reducible exact Below.refl _ _ | with_reducible assumption | with_reducible refine Below.drew ?_ | with_reducible refine below_dn ?_ _ | with_reducible refine below_ca ?_ _ | with_reducible refine Below.setCell ?_ ?_ _ | (refine below_c ?_ (by with_reducible assumption)) | (simp <;> omega) | omega)⟩
end Go.Proofs.Ytmcdmgnpbhkdhaa
