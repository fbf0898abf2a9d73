/- ListenRow, the switch of a round: Half, Done. -/
import Derived.Test.YtmcdmgnpbhkdhaaLisR
import Derived.Deep.CutBlock
namespace Go.Proofs.Ytmcdmgnpbhkdhaa
open Go.RowKit Go.Lib
set_option linter.unusedVariables false
set_option linter.unusedSimpArgs false
set_option linter.unusedSectionVars false

noncomputable def lrSwitch : Code := ((Try.f6.body.bind (blkIn 2)).getD .skip)
theorem elem_End : (Try.prog.info? 42).map (fun i => (i.size, i.bytes, i.zero.map (·.cells.size))) = some (2, 16, some 2) := by kernel_rfl
theorem one_cEnd (d : KEnd) : ∀ u ∈ cEnd d, u.oneCell' = true := by
  intro u hu
  simp only [cEnd, List.mem_cons, List.not_mem_nil, or_false] at hu
  rcases hu with rfl | rfl <;> rfl
def lrM (g gm gx : Nat) (cs : List Value) (q : KLis) (v rv : Value) : List Res := lisL g gm q v ++ [rowR 2 cEnd rv (q.wt.map dEnd), atR gx 50 cs]
/-- what a round's way leaves -/
def lrRel (w : World) (g gm gx : Nat) (cs : List Value) (b : Int) (rv : Value) (W : World) : Prop :=
  ∃ (q' : KLis) (v' : Value), Mem w W (lrM g gm gx cs q' v' rv) ∧ LInv b q'
section
variable {u1 u2 u3 u4 u6 u7 u8 u10 u12 u13 u14 u15 u16 u17 u18 u19 u20 u21 u22 u23 u24 u25 u26 u27 u28 u29 u30 u31 u32 u33 u34 u35 u36 u37 u38 u39 u40 u41 u42 u43 u44 u45 u46 u47 u48 u49 u51 u52 u53 u54 u55 u56 u57 u58 u59 u60 u61 u62 u63 u64 u65 u66 u67 u68 u69 u70 u71 u72 u73 u74 u75 u76 u77 u78 u79 u80 u81 u82 u83 u84 u85 u86 u87 u88 u89 u90 u91 u92 u93 u94 u95 u96 u97 u98 u99 u100 u101 u102 u103 u104 u105 u106 u107 u108 u109 u110 u111 u112 u113 u114 u115 u116 u117 u118 u119 u120 u121 u122 u123 u124 u125 u126 u127 u128 u129 u130 u131 u132 u133 u134 u135 u136 u137 u138 u139 u140 u141 u142 u143 u144 u145 u146 u147 u148 u149 u150 u151 : Value} (w w4 : World) (g gm gx : Nat) (q : KLis) (v rv : Value) (cs : List Value) (b kk xa : Int) (e : KEnd) (K : Act → World → Prop) (Q0 : Exit → Act → World → Prop)
  (hM : Mem w w4 (lrM g gm gx cs q v rv)) (hI : LInv b q) (he : EndOk e) (he34 : (cs.drop 34).take (cEnd e).length = cEnd e) (hxa : cs[1]? = some (.int .i64 xa))
  (hK : ∀ (v4 v9 v12 v14 v15 v16 v17 v51 v52 v53 v54 v55 v56 v57 v58 v59 v60 v61 v62 v63 v64 v65 v66 v67 v68 v69 v70 v71 v72 v73 v74 v75 v76 v77 v78 v79 v80 v81 v82 v83 v84 v85 v86 v87 v88 v89 v90 v91 v92 v93 v94 v95 v96 v97 v98 v99 v100 v101 v102 v103 v104 v105 v106 v107 v108 v109 v110 v111 v112 v113 v114 v115 v116 v117 v118 v119 v120 v121 v122 v123 v124 v125 v126 v127 : Value) (W : World), lrRel w g gm gx cs b v9 W → K ⟨#[.int .i64 b, u1, u2, u3, v4, .pointer (some ⟨g, 0, none⟩), u6, u7, u8, v9, u10, .pointer (some ⟨gx, 0, none⟩), v12, u13, v14, v15, v16, v17, u18, u19, u20, u21, u22, u23, u24, u25, u26, u27, u28, u29, u30, u31, u32, u33, u34, u35, u36, u37, u38, u39, u40, u41, u42, u43, u44, u45, u46, u47, u48, u49, .int .i64 kk, v51, v52, v53, v54, v55, v56, v57, v58, v59, v60, v61, v62, v63, v64, v65, v66, v67, v68, v69, v70, v71, v72, v73, v74, v75, v76, v77, v78, v79, v80, v81, v82, v83, v84, v85, v86, v87, v88, v89, v90, v91, v92, v93, v94, v95, v96, v97, v98, v99, v100, v101, v102, v103, v104, v105, v106, v107, v108, v109, v110, v111, v112, v113, v114, v115, v116, v117, v118, v119, v120, v121, v122, v123, v124, v125, v126, v127, u128, u129, u130, u131, u132, u133, u134, u135, u136, u137, u138, u139, u140, u141, u142, u143, u144, u145, u146, u147, u148, u149, u150, u151], []⟩ W)
include hM hI he he34 hxa hK
set_option maxRecDepth 100000 in
set_option maxHeartbeats 4000000 in
theorem lr_zero (h : kk = 0) : Code.wp Try.prog lrSwitch (Exit.then K Q0) ⟨#[.int .i64 b, u1, u2, u3, u4, .pointer (some ⟨g, 0, none⟩), u6, u7, u8, rv, u10, .pointer (some ⟨gx, 0, none⟩), u12, u13, u14, u15, u16, u17, u18, u19, u20, u21, u22, u23, u24, u25, u26, u27, u28, u29, u30, u31, u32, u33, u34, u35, u36, u37, u38, u39, u40, u41, u42, u43, u44, u45, u46, u47, u48, u49, .int .i64 kk, u51, u52, u53, u54, u55, u56, u57, u58, u59, u60, u61, u62, u63, u64, u65, u66, u67, u68, u69, u70, u71, u72, u73, u74, u75, u76, u77, u78, u79, u80, u81, u82, u83, u84, u85, u86, u87, u88, u89, u90, u91, u92, u93, u94, u95, u96, u97, u98, u99, u100, u101, u102, u103, u104, u105, u106, u107, u108, u109, u110, u111, u112, u113, u114, u115, u116, u117, u118, u119, u120, u121, u122, u123, u124, u125, u126, u127, u128, u129, u130, u131, u132, u133, u134, u135, u136, u137, u138, u139, u140, u141, u142, u143, u144, u145, u146, u147, u148, u149, u150, u151], []⟩ w4 := by
  subst h
  have HH := Lib.hid (fun W (h : LisPre W W g gm q v q v) => Half_any g gm q v e W h hI.ok he)
  have hN := linv_half hI e
  generalize lHalf q e = q3 at *
  generalize lHalfB q e = B at *
  generalize lHalfE q e = R at *
  have HN := Lib.hid hN
  clear hN
  conv => arg 2; whnf
  go_wp2_with (first | (refine at_load_ (T := 42) ?_; refine wpList_loads_mem (by go_simp) _ _ rfl 4 _ 34 _ _ (cEnd e) hM rfl rfl he34 _ Try.underlying42 rfl sz_End ?_) | (go_at_call 26; refine (HH.out _ (lis_hand _ hM)).mono ?_; rintro x W ⟨rfl, hM6⟩; replace hM := lis_put _ hM hM6; clear hM6; dsimp only))
  unfold lrRel lrM
  exact ⟨q3, v, by rw [HN.out.2]; exact hM, HN.out.1⟩
set_option maxRecDepth 100000 in
set_option maxHeartbeats 4000000 in
theorem lr_one (h : kk = 1) : Code.wp Try.prog lrSwitch (Exit.then K Q0) ⟨#[.int .i64 b, u1, u2, u3, u4, .pointer (some ⟨g, 0, none⟩), u6, u7, u8, rv, u10, .pointer (some ⟨gx, 0, none⟩), u12, u13, u14, u15, u16, u17, u18, u19, u20, u21, u22, u23, u24, u25, u26, u27, u28, u29, u30, u31, u32, u33, u34, u35, u36, u37, u38, u39, u40, u41, u42, u43, u44, u45, u46, u47, u48, u49, .int .i64 kk, u51, u52, u53, u54, u55, u56, u57, u58, u59, u60, u61, u62, u63, u64, u65, u66, u67, u68, u69, u70, u71, u72, u73, u74, u75, u76, u77, u78, u79, u80, u81, u82, u83, u84, u85, u86, u87, u88, u89, u90, u91, u92, u93, u94, u95, u96, u97, u98, u99, u100, u101, u102, u103, u104, u105, u106, u107, u108, u109, u110, u111, u112, u113, u114, u115, u116, u117, u118, u119, u120, u121, u122, u123, u124, u125, u126, u127, u128, u129, u130, u131, u132, u133, u134, u135, u136, u137, u138, u139, u140, u141, u142, u143, u144, u145, u146, u147, u148, u149, u150, u151], []⟩ w4 := by
  subst h
  have HH := Lib.hid (fun W (h : LisPre W W g gm q v q v) => Done_any g gm q v e xa W h hI.ok he)
  have hN := linv_done hI e xa
  have hwl : q.wt.length ≤ 8 := hI.ok.w
  have hml : (q.wt.map dEnd).length = q.wt.length := List.length_map _
  have hR : lDoneE q e = 0 ∨ (lDoneE q e == 0) = false := by
    by_cases h : lDoneE q e = 0
    · exact .inl h
    · exact .inr (by simpa using h)
  generalize lDone q e xa = q3 at *
  rcases hR with hR | hR
  · rw [hR] at HH hN
    rw [if_pos rfl] at hN
    have HN := Lib.hid hN
    clear hN hR
    have HML := Lib.hid hml
    clear hml
    conv => arg 2; whnf
    go_wp2_with         (first
          | (refine at_load_ (T := 42) ?_; refine wpList_loads_mem (by go_simp) _ _ rfl 4 _ 34 _ _ (cEnd e) hM rfl rfl he34 _ Try.underlying42 rfl sz_End ?_)
          | (go_at_call 28; refine (HH.out _ (lis_hand _ hM)).mono ?_; rintro x W ⟨v6, rfl, hM6⟩; replace hM := lis_put _ hM hM6; clear hM6; dsimp only)
          | (refine at_bslice_ ?_; refine wpList_bslice_mem rfl _ 42 _ rfl Try.underlying63 _ zv_End _ rfl rfl sz_End (Nat.le_of_ble_eq_true rfl) (Nat.le_of_ble_eq_true rfl) hM ?_; clear hM; intro gb W hM; simp only [List.cons_append, List.nil_append] at hM)
          | (refine at_append_ ?_; refine wpList_append_row (f := cEnd) rfl _ _ _ 42 rfl Try.underlying63 16 elem_End (by decide) 3 5 _ _ _ (e) hM rfl rfl rfl _ rfl rfl (one_cEnd _) (by rw [HML.out]; omega) (by simp only [maxLen]; rw [HML.out]; omega) ?_; clear hM; intro vN W hM; simp only [List.set_cons_succ, List.set_cons_zero] at hM)
          | (refine at_box_ ?_; refine wpList_box_mem rfl _ _ rfl _ rfl hM ?_; clear hM; intro gb W hM; first | (simp only [List.nil_append] at hM) | (simp only [List.cons_append, List.nil_append] at hM))
          | (refine at_load_ ?_; refine at_wanted_ (by go_simp) ?_; first | (refine wpList_loadf_mem (by go_simp) _ _ rfl (by kernel_rfl) 0 _ _ _ _ _ hM rfl rfl (by first | rfl | assumption) ?_) | (refine wpList_loadf_mem (by go_simp) _ _ rfl (by kernel_rfl) 1 _ _ _ _ _ hM rfl rfl (by first | rfl | assumption) ?_) | (refine wpList_loadf_mem (by go_simp) _ _ rfl (by kernel_rfl) 2 _ _ _ _ _ hM rfl rfl (by first | rfl | assumption) ?_) | (refine wpList_loadf_mem (by go_simp) _ _ rfl (by kernel_rfl) 3 _ _ _ _ _ hM rfl rfl (by first | rfl | assumption) ?_) | (refine wpList_loadf_mem (by go_simp) _ _ rfl (by kernel_rfl) 4 _ _ _ _ _ hM rfl rfl (by first | rfl | assumption) ?_) | (refine wpList_loadf_mem (by go_simp) _ _ rfl (by kernel_rfl) 5 _ _ _ _ _ hM rfl rfl (by first | rfl | assumption) ?_))
          | (refine at_store_ ?_; first | (refine wpList_store1_mem rfl _ _ _ rfl 0 _ _ _ _ _ hM rfl rfl (by first | ((conv => lhs; whnf); done) | ((conv => lhs; whnf); rfl)) (by rfl) (by rfl) (by kernel_rfl) rfl ?_; clear hM; intro W hM; simp only [List.set_cons_succ, List.set_cons_zero] at hM) | (refine wpList_store1_mem rfl _ _ _ rfl 1 _ _ _ _ _ hM rfl rfl (by first | ((conv => lhs; whnf); done) | ((conv => lhs; whnf); rfl)) (by rfl) (by rfl) (by kernel_rfl) rfl ?_; clear hM; intro W hM; simp only [List.set_cons_succ, List.set_cons_zero] at hM) | (refine wpList_store1_mem rfl _ _ _ rfl 2 _ _ _ _ _ hM rfl rfl (by first | ((conv => lhs; whnf); done) | ((conv => lhs; whnf); rfl)) (by rfl) (by rfl) (by kernel_rfl) rfl ?_; clear hM; intro W hM; simp only [List.set_cons_succ, List.set_cons_zero] at hM) | (refine wpList_store1_mem rfl _ _ _ rfl 3 _ _ _ _ _ hM rfl rfl (by first | ((conv => lhs; whnf); done) | ((conv => lhs; whnf); rfl)) (by rfl) (by rfl) (by kernel_rfl) rfl ?_; clear hM; intro W hM; simp only [List.set_cons_succ, List.set_cons_zero] at hM) | (refine wpList_store1_mem rfl _ _ _ rfl 4 _ _ _ _ _ hM rfl rfl (by first | ((conv => lhs; whnf); done) | ((conv => lhs; whnf); rfl)) (by rfl) (by rfl) (by kernel_rfl) rfl ?_; clear hM; intro W hM; simp only [List.set_cons_succ, List.set_cons_zero] at hM) | (refine wpList_store1_mem rfl _ _ _ rfl 5 _ _ _ _ _ hM rfl rfl (by first | ((conv => lhs; whnf); done) | ((conv => lhs; whnf); rfl)) (by rfl) (by rfl) (by kernel_rfl) rfl ?_; clear hM; intro W hM; simp only [List.set_cons_succ, List.set_cons_zero] at hM)))
    unfold lrRel lrM
    exact ⟨q3, v6, by rw [HN.out.2]; exact hM.take_ 5, HN.out.1⟩
  · have h2 : ¬ lDoneE q e = 0 := by simpa using hR
    rw [if_neg h2] at hN
    have HN := Lib.hid hN
    clear hN h2 hml
    conv => arg 2; whnf
    go_wp2_with         (first
          | (refine at_load_ (T := 42) ?_; refine wpList_loads_mem (by go_simp) _ _ rfl 4 _ 34 _ _ (cEnd e) hM rfl rfl he34 _ Try.underlying42 rfl sz_End ?_)
          | (go_at_call 28; refine (HH.out _ (lis_hand _ hM)).mono ?_; rintro x W ⟨v6, rfl, hM6⟩; replace hM := lis_put _ hM hM6; clear hM6; dsimp only)
          | (refine at_box_ ?_; refine wpList_box_mem rfl _ _ rfl _ rfl hM ?_; clear hM; intro gb W hM; first | (simp only [List.nil_append] at hM) | (simp only [List.cons_append, List.nil_append] at hM))
          | (refine at_load_ ?_; refine at_wanted_ (by go_simp) ?_; first | (refine wpList_loadf_mem (by go_simp) _ _ rfl (by kernel_rfl) 0 _ _ _ _ _ hM rfl rfl (by first | rfl | assumption) ?_) | (refine wpList_loadf_mem (by go_simp) _ _ rfl (by kernel_rfl) 1 _ _ _ _ _ hM rfl rfl (by first | rfl | assumption) ?_) | (refine wpList_loadf_mem (by go_simp) _ _ rfl (by kernel_rfl) 2 _ _ _ _ _ hM rfl rfl (by first | rfl | assumption) ?_) | (refine wpList_loadf_mem (by go_simp) _ _ rfl (by kernel_rfl) 3 _ _ _ _ _ hM rfl rfl (by first | rfl | assumption) ?_) | (refine wpList_loadf_mem (by go_simp) _ _ rfl (by kernel_rfl) 4 _ _ _ _ _ hM rfl rfl (by first | rfl | assumption) ?_) | (refine wpList_loadf_mem (by go_simp) _ _ rfl (by kernel_rfl) 5 _ _ _ _ _ hM rfl rfl (by first | rfl | assumption) ?_))
          | (refine at_store_ ?_; first | (refine wpList_store1_mem rfl _ _ _ rfl 0 _ _ _ _ _ hM rfl rfl (by first | ((conv => lhs; whnf); done) | ((conv => lhs; whnf); rfl)) (by rfl) (by rfl) (by kernel_rfl) rfl ?_; clear hM; intro W hM; simp only [List.set_cons_succ, List.set_cons_zero] at hM) | (refine wpList_store1_mem rfl _ _ _ rfl 1 _ _ _ _ _ hM rfl rfl (by first | ((conv => lhs; whnf); done) | ((conv => lhs; whnf); rfl)) (by rfl) (by rfl) (by kernel_rfl) rfl ?_; clear hM; intro W hM; simp only [List.set_cons_succ, List.set_cons_zero] at hM) | (refine wpList_store1_mem rfl _ _ _ rfl 2 _ _ _ _ _ hM rfl rfl (by first | ((conv => lhs; whnf); done) | ((conv => lhs; whnf); rfl)) (by rfl) (by rfl) (by kernel_rfl) rfl ?_; clear hM; intro W hM; simp only [List.set_cons_succ, List.set_cons_zero] at hM) | (refine wpList_store1_mem rfl _ _ _ rfl 3 _ _ _ _ _ hM rfl rfl (by first | ((conv => lhs; whnf); done) | ((conv => lhs; whnf); rfl)) (by rfl) (by rfl) (by kernel_rfl) rfl ?_; clear hM; intro W hM; simp only [List.set_cons_succ, List.set_cons_zero] at hM) | (refine wpList_store1_mem rfl _ _ _ rfl 4 _ _ _ _ _ hM rfl rfl (by first | ((conv => lhs; whnf); done) | ((conv => lhs; whnf); rfl)) (by rfl) (by rfl) (by kernel_rfl) rfl ?_; clear hM; intro W hM; simp only [List.set_cons_succ, List.set_cons_zero] at hM) | (refine wpList_store1_mem rfl _ _ _ rfl 5 _ _ _ _ _ hM rfl rfl (by first | ((conv => lhs; whnf); done) | ((conv => lhs; whnf); rfl)) (by rfl) (by rfl) (by kernel_rfl) rfl ?_; clear hM; intro W hM; simp only [List.set_cons_succ, List.set_cons_zero] at hM)))
    unfold lrRel lrM
    exact ⟨q3, v6, by rw [HN.out.2]; exact hM, HN.out.1⟩
end
end Go.Proofs.Ytmcdmgnpbhkdhaa
