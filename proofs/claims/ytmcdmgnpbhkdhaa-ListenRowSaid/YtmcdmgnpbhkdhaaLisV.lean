/- ListenRow, the switch of a round: Gone. -/
import Derived.Test.YtmcdmgnpbhkdhaaLisU
namespace Go.Proofs.Ytmcdmgnpbhkdhaa
open Go.RowKit Go.Lib
set_option linter.unusedVariables false
set_option linter.unusedSimpArgs false
set_option linter.unusedSectionVars false

theorem noE_len (l : List KEnd) (e : KEnd) (k : Nat) : (noE' (l.take k) e).length ≤ k := Nat.le_trans (List.length_filter_le _ _) (by rw [List.length_take]; omega)
theorem noE_step (l : List KEnd) (e x : KEnd) (k : Nat) (h : l[k]? = some x) : noE' (l.take (k + 1)) e = noE' (l.take k) e ++ if x = e then [] else [x] := by
  unfold noE'
  rw [List.take_add_one, h, List.filter_append]
  congr 1
  by_cases hx : x = e
  · rw [if_pos hx]; simp [hx]
  · rw [if_neg hx]; simp [hx]
section
variable {u1 u2 u3 u4 u6 u7 u8 u10 u12 u13 u14 u15 u16 u17 u18 u19 u20 u21 u22 u23 u24 u25 u26 u27 u28 u29 u30 u31 u32 u33 u34 u35 u36 u37 u38 u39 u40 u41 u42 u43 u44 u45 u46 u47 u48 u49 u51 u52 u53 u54 u55 u56 u57 u58 u59 u60 u61 u62 u63 u64 u65 u66 u67 u68 u69 u70 u71 u72 u73 u74 u75 u76 u77 u78 u79 u80 u81 u82 u83 u84 u85 u86 u87 u88 u89 u90 u91 u92 u93 u94 u95 u96 u97 u98 u99 u100 u101 u102 u103 u104 u105 u106 u107 u108 u109 u110 u111 u112 u113 u114 u115 u116 u117 u118 u119 u120 u121 u122 u123 u124 u125 u126 u127 u128 u129 u130 u131 u132 u133 u134 u135 u136 u137 u138 u139 u140 u141 u142 u143 u144 u145 u146 u147 u148 u149 u150 u151 : Value} (w w4 : World) (g gm gx : Nat) (q : KLis) (v rv : Value) (cs : List Value) (b kk xa : Int) (e : KEnd) (K : Act → World → Prop) (Q0 : Exit → Act → World → Prop)
  (hM : Mem w w4 (lrM g gm gx cs q v rv)) (hI : LInv b q) (he : EndOk e) (he34 : (cs.drop 34).take (cEnd e).length = cEnd e) (hxa : cs[1]? = some (.int .i64 xa))
  (hK : ∀ (v4 v9 v12 v14 v15 v16 v17 v51 v52 v53 v54 v55 v56 v57 v58 v59 v60 v61 v62 v63 v64 v65 v66 v67 v68 v69 v70 v71 v72 v73 v74 v75 v76 v77 v78 v79 v80 v81 v82 v83 v84 v85 v86 v87 v88 v89 v90 v91 v92 v93 v94 v95 v96 v97 v98 v99 v100 v101 v102 v103 v104 v105 v106 v107 v108 v109 v110 v111 v112 v113 v114 v115 v116 v117 v118 v119 v120 v121 v122 v123 v124 v125 v126 v127 : Value) (W : World), lrRel w g gm gx cs b v9 W → K ⟨#[.int .i64 b, u1, u2, u3, v4, .pointer (some ⟨g, 0, none⟩), u6, u7, u8, v9, u10, .pointer (some ⟨gx, 0, none⟩), v12, u13, v14, v15, v16, v17, u18, u19, u20, u21, u22, u23, u24, u25, u26, u27, u28, u29, u30, u31, u32, u33, u34, u35, u36, u37, u38, u39, u40, u41, u42, u43, u44, u45, u46, u47, u48, u49, .int .i64 kk, v51, v52, v53, v54, v55, v56, v57, v58, v59, v60, v61, v62, v63, v64, v65, v66, v67, v68, v69, v70, v71, v72, v73, v74, v75, v76, v77, v78, v79, v80, v81, v82, v83, v84, v85, v86, v87, v88, v89, v90, v91, v92, v93, v94, v95, v96, v97, v98, v99, v100, v101, v102, v103, v104, v105, v106, v107, v108, v109, v110, v111, v112, v113, v114, v115, v116, v117, v118, v119, v120, v121, v122, v123, v124, v125, v126, v127, u128, u129, u130, u131, u132, u133, u134, u135, u136, u137, u138, u139, u140, u141, u142, u143, u144, u145, u146, u147, u148, u149, u150, u151], []⟩ W)
include hM hI he he34 hxa hK
set_option maxRecDepth 100000 in
set_option maxHeartbeats 8000000 in
theorem lr_two (h : kk = 2) : Code.wp Try.prog lrSwitch (Exit.then K Q0) ⟨#[.int .i64 b, u1, u2, u3, u4, .pointer (some ⟨g, 0, none⟩), u6, u7, u8, rv, u10, .pointer (some ⟨gx, 0, none⟩), u12, u13, u14, u15, u16, u17, u18, u19, u20, u21, u22, u23, u24, u25, u26, u27, u28, u29, u30, u31, u32, u33, u34, u35, u36, u37, u38, u39, u40, u41, u42, u43, u44, u45, u46, u47, u48, u49, .int .i64 kk, u51, u52, u53, u54, u55, u56, u57, u58, u59, u60, u61, u62, u63, u64, u65, u66, u67, u68, u69, u70, u71, u72, u73, u74, u75, u76, u77, u78, u79, u80, u81, u82, u83, u84, u85, u86, u87, u88, u89, u90, u91, u92, u93, u94, u95, u96, u97, u98, u99, u100, u101, u102, u103, u104, u105, u106, u107, u108, u109, u110, u111, u112, u113, u114, u115, u116, u117, u118, u119, u120, u121, u122, u123, u124, u125, u126, u127, u128, u129, u130, u131, u132, u133, u134, u135, u136, u137, u138, u139, u140, u141, u142, u143, u144, u145, u146, u147, u148, u149, u150, u151], []⟩ w4 := by
  subst h
  have HH := Lib.hid (fun W (h : LisPre W W g gm q v q v) => Gone_any g gm q v e W h hI.ok he)
  have HN := Lib.hid (linv_gone hI e)
  generalize lGone q e = q3 at *
  have hwl : q.wt.length ≤ 8 := hI.ok.w
  obtain ⟨row, hrow⟩ : ∃ row, row = q.wt.map dEnd := ⟨_, rfl⟩
  have hml : row.length = q.wt.length := by rw [hrow]; exact List.length_map _
  have hM1 : Mem w w4 (lisL g gm q v ++ [rowR 2 cEnd rv row, atR gx 50 cs]) := by rw [hrow]; exact hM
  rw [← hrow] at HN
  have HROW := Lib.hid hrow
  clear hM hrow hI
  have hM := hM1
  clear hM1
  have hrl : row.length ≤ 8 := by omega
  obtain ⟨A, cap, rfl⟩ := (hM.row 3 rfl).form
  clear hml hwl
  have HM0 := Lib.hid (hM.rowNil 2 cEnd)
  conv => arg 2; whnf
  go_wp2_with fail
  go_loopg [75, 12] row.length (fun gh i rest wr => ∃ (k : Nat), gh = row.length - k ∧ k ≤ row.length ∧ i = .int .i64 k ∧ Mem w wr (lisL g gm q v ++ [rowR 2 cEnd (.slice A row.length cap) row, atR gx 50 cs, rowR 2 cEnd rest (noE' (row.take k) e)]))
  case atStart => exact ⟨0, by omega, by omega, rfl, HM0.out⟩
  case round =>
    clear HM0
    obtain ⟨k, hgk, hk, rfl, hM⟩ := hrel
    have HGK := Lib.hid hgk
    clear hgk
    by_cases hlt : k < row.length
    · obtain ⟨gR, offR, cap', hv, hWA⟩ := (hM.row 3 rfl).pos (by omega)
      injection hv with hv1 _ hv2
      subst hv1 hv2
      obtain ⟨x, hx⟩ : ∃ x, row[k]? = some x := ⟨row[k], List.getElem?_eq_getElem hlt⟩
      have HRG := Lib.hid (fun W (hW : Win W 0 2 (.slice (some ⟨gR, offR, none⟩) row.length cap) row.length (row.flatMap cEnd)) => row_range (f := cEnd) (size := 2) (fun _ => rfl) hW k x hx)
      have HS := Lib.hid (noE_step row e x k hx)
      have hnl := noE_len row e k
      clear hx hWA
      by_cases hxe : x = e
      · rw [if_pos hxe, List.append_nil] at HS
        subst hxe
        go_upto_region 22 with         (first
          | (refine at_load_ (T := 42) ?_; refine wpList_load_mid rfl 42 _ rfl gR (offR + k * 2) rfl (cEnd x) _ (HRG.out _ (hM.win_ 3 rfl)) Try.underlying42 rfl sz_End ?_)
          | (refine at_box_ ?_; refine wpList_box_mem rfl _ _ rfl _ rfl hM ?_; clear hM; intro gb W hM; first | (simp only [List.nil_append] at hM) | (simp only [List.cons_append, List.nil_append] at hM))
          | (refine at_alloc_ (T := 42) ?_; refine wpList_alloc_mem rfl 42 rfl _ zv_End _ rfl hM ?_; clear hM; intro gb W hM; first | (simp only [List.nil_append] at hM) | (simp only [List.cons_append, List.nil_append] at hM))
          | (refine at_load_ (T := 42) ?_; refine at_wanted_ (by go_simp) ?_; first | (refine wpList_loadg_mem (by go_simp) 42 _ rfl 0 _ _ _ hM rfl rfl _ Try.underlying42 rfl sz_End ?_) | (refine wpList_loadg_mem (by go_simp) 42 _ rfl 1 _ _ _ hM rfl rfl _ Try.underlying42 rfl sz_End ?_) | (refine wpList_loadg_mem (by go_simp) 42 _ rfl 2 _ _ _ hM rfl rfl _ Try.underlying42 rfl sz_End ?_) | (refine wpList_loadg_mem (by go_simp) 42 _ rfl 3 _ _ _ hM rfl rfl _ Try.underlying42 rfl sz_End ?_) | (refine wpList_loadg_mem (by go_simp) 42 _ rfl 4 _ _ _ hM rfl rfl _ Try.underlying42 rfl sz_End ?_) | (refine wpList_loadg_mem (by go_simp) 42 _ rfl 5 _ _ _ hM rfl rfl _ Try.underlying42 rfl sz_End ?_) | (refine wpList_loadg_mem (by go_simp) 42 _ rfl 6 _ _ _ hM rfl rfl _ Try.underlying42 rfl sz_End ?_))
          | (refine at_store_ (T := 42) ?_; first | (refine wpList_store_mem rfl 42 _ _ rfl 0 _ _ _ _ hM rfl rfl rfl rfl sz_End rfl ?_; clear hM; intro W hM; simp only [List.set_cons_zero] at hM) | (refine wpList_store_mem rfl 42 _ _ rfl 1 _ _ _ _ hM rfl rfl rfl rfl sz_End rfl ?_; clear hM; intro W hM; simp only [List.set_cons_succ, List.set_cons_zero] at hM) | (refine wpList_store_mem rfl 42 _ _ rfl 2 _ _ _ _ hM rfl rfl rfl rfl sz_End rfl ?_; clear hM; intro W hM; simp only [List.set_cons_succ, List.set_cons_zero] at hM) | (refine wpList_store_mem rfl 42 _ _ rfl 3 _ _ _ _ hM rfl rfl rfl rfl sz_End rfl ?_; clear hM; intro W hM; simp only [List.set_cons_succ, List.set_cons_zero] at hM) | (refine wpList_store_mem rfl 42 _ _ rfl 4 _ _ _ _ hM rfl rfl rfl rfl sz_End rfl ?_; clear hM; intro W hM; simp only [List.set_cons_succ, List.set_cons_zero] at hM) | (refine wpList_store_mem rfl 42 _ _ rfl 5 _ _ _ _ hM rfl rfl rfl rfl sz_End rfl ?_; clear hM; intro W hM; simp only [List.set_cons_succ, List.set_cons_zero] at hM) | (refine wpList_store_mem rfl 42 _ _ rfl 6 _ _ _ _ hM rfl rfl rfl rfl sz_End rfl ?_; clear hM; intro W hM; simp only [List.set_cons_succ, List.set_cons_zero] at hM)))
        go_wp2_with         (first
          | (refine at_load_ (T := 42) ?_; refine wpList_loads_mem (by go_simp) _ _ rfl 4 _ 34 _ _ (cEnd x) hM rfl rfl he34 _ Try.underlying42 rfl sz_End ?_)
          | (refine at_eq_ (T := 42) ?_; first | (refine wpList_eq_mem (by go_simp) 42 _ _ _ rfl _ _ rfl rfl eg_End _ (eqT_End _) ?_) | (refine wpList_eq_mem (by go_simp) 42 _ _ _ rfl _ _ rfl rfl eg_End _ (eqF_End _ _ (by assumption)) ?_))
          | (refine at_ne_ (T := 42) ?_; first | (refine wpList_ne_mem (by go_simp) 42 _ _ _ rfl _ _ rfl rfl eg_End _ (eqT_End _) ?_) | (refine wpList_ne_mem (by go_simp) 42 _ _ _ rfl _ _ rfl rfl eg_End _ (eqF_End _ _ (by assumption)) ?_))
          | (refine at_box_ ?_; refine wpList_box_mem rfl _ _ rfl _ rfl hM ?_; clear hM; intro gb W hM; first | (simp only [List.nil_append] at hM) | (simp only [List.cons_append, List.nil_append] at hM))
          | (refine at_alloc_ (T := 42) ?_; refine wpList_alloc_mem rfl 42 rfl _ zv_End _ rfl hM ?_; clear hM; intro gb W hM; first | (simp only [List.nil_append] at hM) | (simp only [List.cons_append, List.nil_append] at hM))
          | (refine at_load_ (T := 42) ?_; refine at_wanted_ (by go_simp) ?_; first | (refine wpList_loadg_mem (by go_simp) 42 _ rfl 0 _ _ _ hM rfl rfl _ Try.underlying42 rfl sz_End ?_) | (refine wpList_loadg_mem (by go_simp) 42 _ rfl 1 _ _ _ hM rfl rfl _ Try.underlying42 rfl sz_End ?_) | (refine wpList_loadg_mem (by go_simp) 42 _ rfl 2 _ _ _ hM rfl rfl _ Try.underlying42 rfl sz_End ?_) | (refine wpList_loadg_mem (by go_simp) 42 _ rfl 3 _ _ _ hM rfl rfl _ Try.underlying42 rfl sz_End ?_) | (refine wpList_loadg_mem (by go_simp) 42 _ rfl 4 _ _ _ hM rfl rfl _ Try.underlying42 rfl sz_End ?_) | (refine wpList_loadg_mem (by go_simp) 42 _ rfl 5 _ _ _ hM rfl rfl _ Try.underlying42 rfl sz_End ?_) | (refine wpList_loadg_mem (by go_simp) 42 _ rfl 6 _ _ _ hM rfl rfl _ Try.underlying42 rfl sz_End ?_))
          | (refine at_store_ (T := 42) ?_; first | (refine wpList_store_mem rfl 42 _ _ rfl 0 _ _ _ _ hM rfl rfl rfl rfl sz_End rfl ?_; clear hM; intro W hM; simp only [List.set_cons_zero] at hM) | (refine wpList_store_mem rfl 42 _ _ rfl 1 _ _ _ _ hM rfl rfl rfl rfl sz_End rfl ?_; clear hM; intro W hM; simp only [List.set_cons_succ, List.set_cons_zero] at hM) | (refine wpList_store_mem rfl 42 _ _ rfl 2 _ _ _ _ hM rfl rfl rfl rfl sz_End rfl ?_; clear hM; intro W hM; simp only [List.set_cons_succ, List.set_cons_zero] at hM) | (refine wpList_store_mem rfl 42 _ _ rfl 3 _ _ _ _ hM rfl rfl rfl rfl sz_End rfl ?_; clear hM; intro W hM; simp only [List.set_cons_succ, List.set_cons_zero] at hM) | (refine wpList_store_mem rfl 42 _ _ rfl 4 _ _ _ _ hM rfl rfl rfl rfl sz_End rfl ?_; clear hM; intro W hM; simp only [List.set_cons_succ, List.set_cons_zero] at hM) | (refine wpList_store_mem rfl 42 _ _ rfl 5 _ _ _ _ hM rfl rfl rfl rfl sz_End rfl ?_; clear hM; intro W hM; simp only [List.set_cons_succ, List.set_cons_zero] at hM) | (refine wpList_store_mem rfl 42 _ _ rfl 6 _ _ _ _ hM rfl rfl rfl rfl sz_End rfl ?_; clear hM; intro W hM; simp only [List.set_cons_succ, List.set_cons_zero] at hM)))
        go_roundg (row.length - (k + 1))
        case measure => have := HGK.out; omega
        case rel => exact ⟨k + 1, rfl, by omega, by go_num, by rw [HS.out]; exact hM.take_ 6⟩
      · rw [if_neg hxe] at HS
        go_upto_region 22 with         (first
          | (refine at_load_ (T := 42) ?_; refine wpList_load_mid rfl 42 _ rfl gR (offR + k * 2) rfl (cEnd x) _ (HRG.out _ (hM.win_ 3 rfl)) Try.underlying42 rfl sz_End ?_)
          | (refine at_box_ ?_; refine wpList_box_mem rfl _ _ rfl _ rfl hM ?_; clear hM; intro gb W hM; first | (simp only [List.nil_append] at hM) | (simp only [List.cons_append, List.nil_append] at hM))
          | (refine at_alloc_ (T := 42) ?_; refine wpList_alloc_mem rfl 42 rfl _ zv_End _ rfl hM ?_; clear hM; intro gb W hM; first | (simp only [List.nil_append] at hM) | (simp only [List.cons_append, List.nil_append] at hM))
          | (refine at_load_ (T := 42) ?_; refine at_wanted_ (by go_simp) ?_; first | (refine wpList_loadg_mem (by go_simp) 42 _ rfl 0 _ _ _ hM rfl rfl _ Try.underlying42 rfl sz_End ?_) | (refine wpList_loadg_mem (by go_simp) 42 _ rfl 1 _ _ _ hM rfl rfl _ Try.underlying42 rfl sz_End ?_) | (refine wpList_loadg_mem (by go_simp) 42 _ rfl 2 _ _ _ hM rfl rfl _ Try.underlying42 rfl sz_End ?_) | (refine wpList_loadg_mem (by go_simp) 42 _ rfl 3 _ _ _ hM rfl rfl _ Try.underlying42 rfl sz_End ?_) | (refine wpList_loadg_mem (by go_simp) 42 _ rfl 4 _ _ _ hM rfl rfl _ Try.underlying42 rfl sz_End ?_) | (refine wpList_loadg_mem (by go_simp) 42 _ rfl 5 _ _ _ hM rfl rfl _ Try.underlying42 rfl sz_End ?_) | (refine wpList_loadg_mem (by go_simp) 42 _ rfl 6 _ _ _ hM rfl rfl _ Try.underlying42 rfl sz_End ?_))
          | (refine at_store_ (T := 42) ?_; first | (refine wpList_store_mem rfl 42 _ _ rfl 0 _ _ _ _ hM rfl rfl rfl rfl sz_End rfl ?_; clear hM; intro W hM; simp only [List.set_cons_zero] at hM) | (refine wpList_store_mem rfl 42 _ _ rfl 1 _ _ _ _ hM rfl rfl rfl rfl sz_End rfl ?_; clear hM; intro W hM; simp only [List.set_cons_succ, List.set_cons_zero] at hM) | (refine wpList_store_mem rfl 42 _ _ rfl 2 _ _ _ _ hM rfl rfl rfl rfl sz_End rfl ?_; clear hM; intro W hM; simp only [List.set_cons_succ, List.set_cons_zero] at hM) | (refine wpList_store_mem rfl 42 _ _ rfl 3 _ _ _ _ hM rfl rfl rfl rfl sz_End rfl ?_; clear hM; intro W hM; simp only [List.set_cons_succ, List.set_cons_zero] at hM) | (refine wpList_store_mem rfl 42 _ _ rfl 4 _ _ _ _ hM rfl rfl rfl rfl sz_End rfl ?_; clear hM; intro W hM; simp only [List.set_cons_succ, List.set_cons_zero] at hM) | (refine wpList_store_mem rfl 42 _ _ rfl 5 _ _ _ _ hM rfl rfl rfl rfl sz_End rfl ?_; clear hM; intro W hM; simp only [List.set_cons_succ, List.set_cons_zero] at hM) | (refine wpList_store_mem rfl 42 _ _ rfl 6 _ _ _ _ hM rfl rfl rfl rfl sz_End rfl ?_; clear hM; intro W hM; simp only [List.set_cons_succ, List.set_cons_zero] at hM)))
        go_upto_region 23 with         (first
          | (refine at_ne_ ?_; refine wpList_ne_mem (by go_simp) _ _ _ _ rfl _ _ rfl rfl eg_End false (eqF_End x e hxe) ?_)
          | (refine at_load_ (T := 42) ?_; refine wpList_loads_mem (by go_simp) _ _ rfl 4 _ 34 _ _ (cEnd e) hM rfl rfl he34 _ Try.underlying42 rfl sz_End ?_)
          | (refine at_box_ ?_; refine wpList_box_mem rfl _ _ rfl _ rfl hM ?_; clear hM; intro gb W hM; first | (simp only [List.nil_append] at hM) | (simp only [List.cons_append, List.nil_append] at hM))
          | (refine at_alloc_ (T := 42) ?_; refine wpList_alloc_mem rfl 42 rfl _ zv_End _ rfl hM ?_; clear hM; intro gb W hM; first | (simp only [List.nil_append] at hM) | (simp only [List.cons_append, List.nil_append] at hM))
          | (refine at_load_ (T := 42) ?_; refine at_wanted_ (by go_simp) ?_; first | (refine wpList_loadg_mem (by go_simp) 42 _ rfl 0 _ _ _ hM rfl rfl _ Try.underlying42 rfl sz_End ?_) | (refine wpList_loadg_mem (by go_simp) 42 _ rfl 1 _ _ _ hM rfl rfl _ Try.underlying42 rfl sz_End ?_) | (refine wpList_loadg_mem (by go_simp) 42 _ rfl 2 _ _ _ hM rfl rfl _ Try.underlying42 rfl sz_End ?_) | (refine wpList_loadg_mem (by go_simp) 42 _ rfl 3 _ _ _ hM rfl rfl _ Try.underlying42 rfl sz_End ?_) | (refine wpList_loadg_mem (by go_simp) 42 _ rfl 4 _ _ _ hM rfl rfl _ Try.underlying42 rfl sz_End ?_) | (refine wpList_loadg_mem (by go_simp) 42 _ rfl 5 _ _ _ hM rfl rfl _ Try.underlying42 rfl sz_End ?_) | (refine wpList_loadg_mem (by go_simp) 42 _ rfl 6 _ _ _ hM rfl rfl _ Try.underlying42 rfl sz_End ?_))
          | (refine at_store_ (T := 42) ?_; first | (refine wpList_store_mem rfl 42 _ _ rfl 0 _ _ _ _ hM rfl rfl rfl rfl sz_End rfl ?_; clear hM; intro W hM; simp only [List.set_cons_zero] at hM) | (refine wpList_store_mem rfl 42 _ _ rfl 1 _ _ _ _ hM rfl rfl rfl rfl sz_End rfl ?_; clear hM; intro W hM; simp only [List.set_cons_succ, List.set_cons_zero] at hM) | (refine wpList_store_mem rfl 42 _ _ rfl 2 _ _ _ _ hM rfl rfl rfl rfl sz_End rfl ?_; clear hM; intro W hM; simp only [List.set_cons_succ, List.set_cons_zero] at hM) | (refine wpList_store_mem rfl 42 _ _ rfl 3 _ _ _ _ hM rfl rfl rfl rfl sz_End rfl ?_; clear hM; intro W hM; simp only [List.set_cons_succ, List.set_cons_zero] at hM) | (refine wpList_store_mem rfl 42 _ _ rfl 4 _ _ _ _ hM rfl rfl rfl rfl sz_End rfl ?_; clear hM; intro W hM; simp only [List.set_cons_succ, List.set_cons_zero] at hM) | (refine wpList_store_mem rfl 42 _ _ rfl 5 _ _ _ _ hM rfl rfl rfl rfl sz_End rfl ?_; clear hM; intro W hM; simp only [List.set_cons_succ, List.set_cons_zero] at hM) | (refine wpList_store_mem rfl 42 _ _ rfl 6 _ _ _ _ hM rfl rfl rfl rfl sz_End rfl ?_; clear hM; intro W hM; simp only [List.set_cons_succ, List.set_cons_zero] at hM)))
        go_wp2_with         (first
          | (refine at_bslice_ ?_; refine wpList_bslice_mem rfl _ 42 _ rfl Try.underlying63 _ zv_End _ rfl rfl sz_End (Nat.le_of_ble_eq_true rfl) (Nat.le_of_ble_eq_true rfl) hM ?_; clear hM; intro gb W hM; simp only [List.cons_append, List.nil_append] at hM)
          | (refine at_append_ ?_; refine wpList_append_row (f := cEnd) rfl _ _ _ 42 rfl Try.underlying63 16 elem_End (by decide) 5 7 _ _ _ x hM rfl rfl rfl _ rfl rfl (one_cEnd _) (by omega) (by simp only [maxLen]; omega) ?_; clear hM; intro vN W hM; simp only [List.set_cons_succ, List.set_cons_zero] at hM)
          | (refine at_box_ ?_; refine wpList_box_mem rfl _ _ rfl _ rfl hM ?_; clear hM; intro gb W hM; first | (simp only [List.nil_append] at hM) | (simp only [List.cons_append, List.nil_append] at hM))
          | (refine at_alloc_ (T := 42) ?_; refine wpList_alloc_mem rfl 42 rfl _ zv_End _ rfl hM ?_; clear hM; intro gb W hM; first | (simp only [List.nil_append] at hM) | (simp only [List.cons_append, List.nil_append] at hM))
          | (refine at_load_ (T := 42) ?_; refine at_wanted_ (by go_simp) ?_; first | (refine wpList_loadg_mem (by go_simp) 42 _ rfl 0 _ _ _ hM rfl rfl _ Try.underlying42 rfl sz_End ?_) | (refine wpList_loadg_mem (by go_simp) 42 _ rfl 1 _ _ _ hM rfl rfl _ Try.underlying42 rfl sz_End ?_) | (refine wpList_loadg_mem (by go_simp) 42 _ rfl 2 _ _ _ hM rfl rfl _ Try.underlying42 rfl sz_End ?_) | (refine wpList_loadg_mem (by go_simp) 42 _ rfl 3 _ _ _ hM rfl rfl _ Try.underlying42 rfl sz_End ?_) | (refine wpList_loadg_mem (by go_simp) 42 _ rfl 4 _ _ _ hM rfl rfl _ Try.underlying42 rfl sz_End ?_) | (refine wpList_loadg_mem (by go_simp) 42 _ rfl 5 _ _ _ hM rfl rfl _ Try.underlying42 rfl sz_End ?_) | (refine wpList_loadg_mem (by go_simp) 42 _ rfl 6 _ _ _ hM rfl rfl _ Try.underlying42 rfl sz_End ?_))
          | (refine at_store_ (T := 42) ?_; first | (refine wpList_store_mem rfl 42 _ _ rfl 0 _ _ _ _ hM rfl rfl rfl rfl sz_End rfl ?_; clear hM; intro W hM; simp only [List.set_cons_zero] at hM) | (refine wpList_store_mem rfl 42 _ _ rfl 1 _ _ _ _ hM rfl rfl rfl rfl sz_End rfl ?_; clear hM; intro W hM; simp only [List.set_cons_succ, List.set_cons_zero] at hM) | (refine wpList_store_mem rfl 42 _ _ rfl 2 _ _ _ _ hM rfl rfl rfl rfl sz_End rfl ?_; clear hM; intro W hM; simp only [List.set_cons_succ, List.set_cons_zero] at hM) | (refine wpList_store_mem rfl 42 _ _ rfl 3 _ _ _ _ hM rfl rfl rfl rfl sz_End rfl ?_; clear hM; intro W hM; simp only [List.set_cons_succ, List.set_cons_zero] at hM) | (refine wpList_store_mem rfl 42 _ _ rfl 4 _ _ _ _ hM rfl rfl rfl rfl sz_End rfl ?_; clear hM; intro W hM; simp only [List.set_cons_succ, List.set_cons_zero] at hM) | (refine wpList_store_mem rfl 42 _ _ rfl 5 _ _ _ _ hM rfl rfl rfl rfl sz_End rfl ?_; clear hM; intro W hM; simp only [List.set_cons_succ, List.set_cons_zero] at hM) | (refine wpList_store_mem rfl 42 _ _ rfl 6 _ _ _ _ hM rfl rfl rfl rfl sz_End rfl ?_; clear hM; intro W hM; simp only [List.set_cons_succ, List.set_cons_zero] at hM)))
        go_roundg (row.length - (k + 1))
        case measure => have := HGK.out; omega
        case rel => exact ⟨k + 1, rfl, by omega, by go_num, by rw [HS.out]; exact hM.take_ 6⟩
    · have hkk : row.take k = row := List.take_of_length_le (by omega)
      rw [hkk] at hM
      clear hkk
      go_wp2_with (first | (refine at_load_ (T := 42) ?_; refine wpList_loads_mem (by go_simp) _ _ rfl 4 _ 34 _ _ (cEnd e) hM rfl rfl he34 _ Try.underlying42 rfl sz_End ?_) | (go_at_call 27; refine (HH.out _ (lis_hand _ hM)).mono ?_; rintro x W ⟨v6, rfl, hM6⟩; replace hM := lis_put _ hM hM6; clear hM6; dsimp only))
      unfold lrRel lrM
      refine ⟨q3, v6, ?_, HN.out.1⟩
      rw [HN.out.2]
      exact (hM.perm ((List.reverse_perm _).symm.append_left (lisL g gm q3 v6))).take_ 5
end
end Go.Proofs.Ytmcdmgnpbhkdhaa
