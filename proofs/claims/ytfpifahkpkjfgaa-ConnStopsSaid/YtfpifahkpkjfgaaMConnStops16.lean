/- What ConnStops needs, a part: OutqF. -/
import Derived.StillTailTactics
import Derived.Test.YtfpifahkpkjfgaaMConnStops7
namespace Go.Proofs.Ytfpifahkpkjfgaa
open Go.RowKit Go.Lib
set_option linter.unusedVariables false
set_option maxRecDepth 100000 in
set_option maxHeartbeats 8000000 in
theorem pieceF_any (g : Nat) (q : OQ) (v : Value) (fr lim mss : Int) (w : World) (hA : OAt w g q v) (hV : OwnB w 0 v q.l) (ok : OqOk q) (hb2 : q.base ≤ 4611686018427387904) (hfr : OqOk { q with cur := fr })
    (hl : -9223372036854775808 ≤ lim ∧ lim ≤ 9223372036854775807) (hm : -9223372036854775808 ≤ mss ∧ mss ≤ 9223372036854775807) :
    Calls Try.prog 62 #[.pointer (some ⟨g, 0, none⟩), .int .i64 fr, .int .i64 lim, .int .i64 mss] w fun e w' => e = .returned (.tuple #[.agg (cPiece (qPiece q fr lim mss)).toArray, .bool (oIs q fr lim mss)]) ∧ Below w.heap.size w w' := by
  obtain ⟨hl1, hl2⟩ := hl
  obtain ⟨hm1, hm2⟩ := hm
  have hlen := ok.len
  have hba := ok.ba
  have hfd : oFin q = q.base + q.l.length := rfl
  have hen := qEnd_bd (q := q)
  have hc0 : 0 ≤ fr := by have h1 : 0 ≤ q.una := hfr.uc; have h2 : q.una ≤ fr := hfr.cs; omega
  have hc1 : fr ≤ qEnd q := by have h1 : fr ≤ q.sent := hfr.se; have h2 := ok.ee; omega
  have HFR := Lib.hid hfr
  clear hfr
  have hlm : (if qEnd q < lim then qEnd q else lim) = oLim q lim := by unfold oLim; split <;> split <;> omega
  have hll := oLim_le (q := q) lim
  have HE := Lib.hid (fun W (h : Below w.heap.size w W) => End_any g q v W (hA.kept h) (hV.kept h) hlen hba hb2)
  have HF := Lib.hid (fun W (h : Below w.heap.size w W) => fin_any g q v W (hA.kept h) (hV.kept h) hlen hba hb2)
  have his : oIs q fr lim mss = (decide (fr < oLim q lim) && decide (1 ≤ mss)) := rfl
  have hM := Mem.nil w
  have HOK := Lib.hid ok
  by_cases h1 : oIs q fr lim mss = true
  rotate_left
  · have h1' : oIs q fr lim mss = false := by simpa using h1
    have hp : qPiece q fr lim mss = ⟨0, false, false, ⟨#[]⟩⟩ := by unfold qPiece; rw [if_neg h1]
    rw [hp, h1']
    rw [h1'] at his
    have HIS := Lib.hid his
    generalize oLim q lim = L at *
    generalize qEnd q = En at *
    clear hp h1 h1' his hc1 hfd ok
    by_cases h2 : fr < L
    · have h3 : mss < 1 := by
        by_cases h3 : mss < 1
        · exact h3
        · have := HIS.out; simp at this; omega
      have t1 : decide (L ≤ fr) = false := by simp; omega
      have t2 : decide (mss < 1) = true := by simp; omega
      go_enter Try.func62, Try.ntmps62
      go_wp2_with (first
        | go_skip
        | (go_at_call 68; go_must (refine (HE.out _ hM.b).mono ?_; rintro e W ⟨rfl, hb⟩); replace hM := hM.kept hb; clear hb)
        | ((with_reducible refine at_box_ ?_); refine wpList_box_mem rfl _ _ rfl _ rfl hM ?_; clear hM; intro gb W hM; first | (simp only [List.nil_append] at hM) | (simp only [List.cons_append, List.nil_append] at hM))
        | ((with_reducible refine at_alloc_ (T := 87) ?_); refine wpList_alloc_mem rfl 87 rfl _ zv_Piece _ rfl hM ?_; clear hM; intro gb W hM; first | (simp only [List.nil_append] at hM) | (simp only [List.cons_append, List.nil_append] at hM))
        | ((with_reducible refine at_load_ (T := 87) ?_); refine at_wanted_ (by rfl) ?_; first | (refine wpList_loadg_mem (by go_simp) 87 _ rfl 0 _ _ _ hM rfl rfl _ Try.underlying87 rfl sz_Piece ?_) | (refine wpList_loadg_mem (by go_simp) 87 _ rfl 1 _ _ _ hM rfl rfl _ Try.underlying87 rfl sz_Piece ?_))
        | ((with_reducible refine at_store_ (T := 87) ?_); first | (refine wpList_store_mem rfl 87 _ _ rfl 0 _ _ _ _ hM rfl rfl rfl rfl sz_Piece rfl ?_; clear hM; intro W hM; simp only [zE] at hM) | (refine wpList_store_mem rfl 87 _ _ rfl 1 _ _ _ _ hM rfl rfl rfl rfl sz_Piece rfl ?_; clear hM; intro W hM; simp only [zF, zE] at hM))
        | ((with_reducible refine at_load_ ?_); refine at_wanted_ (by rfl) ?_; first | (refine lM 0 hM rfl rfl rfl (by first | rfl | assumption) ?_) | (refine lM 1 hM rfl rfl rfl (by first | rfl | assumption) ?_))
        | ((with_reducible refine at_store_ ?_); first | (refine sM 0 hM rfl rfl rfl ?_; clear hM; intro W hM; simp only [zF, zE] at hM) | (refine sM 1 hM rfl rfl rfl ?_; clear hM; intro W hM; simp only [zF, zE] at hM)))
      have hcz := hM.cells 0 rfl
      refine bodyPost_ret (v := .tuple #[.agg (cPiece (⟨0, false, false, ⟨#[]⟩⟩)).toArray, .bool false]) (by simp [results, Try.results62, go_sem, hcz, cPiece]) rfl ?_
      exact ⟨rfl, hM.b⟩
    · have t1 : decide (L ≤ fr) = true := by simp; omega
      go_enter Try.func62, Try.ntmps62
      go_wp2_with (first
        | go_skip
        | (go_at_call 68; go_must (refine (HE.out _ hM.b).mono ?_; rintro e W ⟨rfl, hb⟩); replace hM := hM.kept hb; clear hb)
        | ((with_reducible refine at_box_ ?_); refine wpList_box_mem rfl _ _ rfl _ rfl hM ?_; clear hM; intro gb W hM; first | (simp only [List.nil_append] at hM) | (simp only [List.cons_append, List.nil_append] at hM))
        | ((with_reducible refine at_alloc_ (T := 87) ?_); refine wpList_alloc_mem rfl 87 rfl _ zv_Piece _ rfl hM ?_; clear hM; intro gb W hM; first | (simp only [List.nil_append] at hM) | (simp only [List.cons_append, List.nil_append] at hM))
        | ((with_reducible refine at_load_ (T := 87) ?_); refine at_wanted_ (by rfl) ?_; first | (refine wpList_loadg_mem (by go_simp) 87 _ rfl 0 _ _ _ hM rfl rfl _ Try.underlying87 rfl sz_Piece ?_) | (refine wpList_loadg_mem (by go_simp) 87 _ rfl 1 _ _ _ hM rfl rfl _ Try.underlying87 rfl sz_Piece ?_))
        | ((with_reducible refine at_store_ (T := 87) ?_); first | (refine wpList_store_mem rfl 87 _ _ rfl 0 _ _ _ _ hM rfl rfl rfl rfl sz_Piece rfl ?_; clear hM; intro W hM; simp only [zE] at hM) | (refine wpList_store_mem rfl 87 _ _ rfl 1 _ _ _ _ hM rfl rfl rfl rfl sz_Piece rfl ?_; clear hM; intro W hM; simp only [zF, zE] at hM))
        | ((with_reducible refine at_load_ ?_); refine at_wanted_ (by rfl) ?_; first | (refine lM 0 hM rfl rfl rfl (by first | rfl | assumption) ?_) | (refine lM 1 hM rfl rfl rfl (by first | rfl | assumption) ?_))
        | ((with_reducible refine at_store_ ?_); first | (refine sM 0 hM rfl rfl rfl ?_; clear hM; intro W hM; simp only [zF, zE] at hM) | (refine sM 1 hM rfl rfl rfl ?_; clear hM; intro W hM; simp only [zF, zE] at hM)))
      have hcz := hM.cells 0 rfl
      refine bodyPost_ret (v := .tuple #[.agg (cPiece (⟨0, false, false, ⟨#[]⟩⟩)).toArray, .bool false]) (by simp [results, Try.results62, go_sem, hcz, cPiece]) rfl ?_
      exact ⟨rfl, hM.b⟩
  have h2 : fr < oLim q lim ∧ 1 ≤ mss := by rw [his] at h1; simpa using h1
  obtain ⟨h2, h3⟩ := h2
  have t1 : decide (oLim q lim ≤ fr) = false := by simp; omega
  have t2 : decide (mss < 1) = false := by simp; omega
  rw [h1]
  by_cases h0 : fr = 0
  · have hp : qPiece q fr lim mss = ⟨0, true, false, ⟨#[]⟩⟩ := by unfold qPiece; rw [if_pos h1, if_pos h0]
    have t3 : ((fr : Int) == 0) = true := by simpa using h0
    rw [hp]
    generalize oLim q lim = L at *
    generalize qEnd q = En at *
    clear hp h1 his hc1 hfd ok h0
    go_enter Try.func62, Try.ntmps62
    go_wp2_with (first
      | go_skip
      | (go_at_call 68; go_must (refine (HE.out _ hM.b).mono ?_; rintro e W ⟨rfl, hb⟩); replace hM := hM.kept hb; clear hb)
      | ((with_reducible refine at_box_ ?_); refine wpList_box_mem rfl _ _ rfl _ rfl hM ?_; clear hM; intro gb W hM; first | (simp only [List.nil_append] at hM) | (simp only [List.cons_append, List.nil_append] at hM))
      | ((with_reducible refine at_alloc_ (T := 87) ?_); refine wpList_alloc_mem rfl 87 rfl _ zv_Piece _ rfl hM ?_; clear hM; intro gb W hM; first | (simp only [List.nil_append] at hM) | (simp only [List.cons_append, List.nil_append] at hM))
      | ((with_reducible refine at_load_ (T := 87) ?_); refine at_wanted_ (by rfl) ?_; first | (refine wpList_loadg_mem (by go_simp) 87 _ rfl 0 _ _ _ hM rfl rfl _ Try.underlying87 rfl sz_Piece ?_) | (refine wpList_loadg_mem (by go_simp) 87 _ rfl 1 _ _ _ hM rfl rfl _ Try.underlying87 rfl sz_Piece ?_))
      | ((with_reducible refine at_store_ (T := 87) ?_); first | (refine wpList_store_mem rfl 87 _ _ rfl 0 _ _ _ _ hM rfl rfl rfl rfl sz_Piece rfl ?_; clear hM; intro W hM; simp only [zE] at hM) | (refine wpList_store_mem rfl 87 _ _ rfl 1 _ _ _ _ hM rfl rfl rfl rfl sz_Piece rfl ?_; clear hM; intro W hM; simp only [zF, zE] at hM))
      | ((with_reducible refine at_load_ ?_); refine at_wanted_ (by rfl) ?_; first | (refine lM 0 hM rfl rfl rfl (by first | rfl | assumption) ?_) | (refine lM 1 hM rfl rfl rfl (by first | rfl | assumption) ?_))
      | ((with_reducible refine at_store_ ?_); first | (refine sM 0 hM rfl rfl rfl ?_; clear hM; intro W hM; simp only [zF, zE] at hM) | (refine sM 1 hM rfl rfl rfl ?_; clear hM; intro W hM; simp only [zF, zE] at hM)))
    have hcz := hM.cells 0 rfl
    refine bodyPost_ret (v := .tuple #[.agg (cPiece (⟨0, true, false, ⟨#[]⟩⟩)).toArray, .bool true]) (by simp [results, Try.results62, go_sem, hcz, cPiece]) rfl ?_
    exact ⟨rfl, hM.b⟩
  have t3 : ((fr : Int) == 0) = false := by simpa using h0
  have hp : qPiece q fr lim mss = ⟨fr, false, oFinB q fr lim mss, byteS (oBody q fr lim mss)⟩ := by unfold qPiece; rw [if_pos h1, if_neg h0]
  have hpb : q.base ≤ fr ∧ oTo q fr lim mss ≤ oFin q ∧ oTo q fr lim mss ≤ oLim q lim ∧ oTo q fr lim mss - fr ≤ mss ∧ fr ≤ oFin q ∧ (oBody q fr lim mss).length = (if fr < oTo q fr lim mss then oTo q fr lim mss - fr else 0).toNat ∧ (fr < oTo q fr lim mss ∨ (fr = oFin q ∧ oFinB q fr lim mss = true)) := piece_bd (q := { q with cur := fr }) HFR.out lim mss h0 h1
  clear HFR
  obtain ⟨k1, k2, k3, k4, k5, k6, k7⟩ := hpb
  have hfb : oFinB q fr lim mss = (q.cl && (decide ((if fr < oTo q fr lim mss then oTo q fr lim mss else fr) = oFin q) && decide (oFin q < oLim q lim))) := rfl
  have hto : oTo q fr lim mss = if mss < (if oLim q lim < oFin q then oLim q lim else oFin q) - fr then fr + mss else (if oLim q lim < oFin q then oLim q lim else oFin q) := rfl
  have htt : (if oFin q < oLim q lim then oFin q else oLim q lim) = (if oLim q lim < oFin q then oLim q lim else oFin q) := by split <;> split <;> omega
  have hbo : oBody q fr lim mss = if fr < oTo q fr lim mss then (q.l.drop (fr - q.base).toNat).take (oTo q fr lim mss - fr).toNat else [] := rfl
  generalize hL : oLim q lim = L at *
  generalize qEnd q = En at *
  generalize hFq : oFin q = F at *
  generalize oTo q fr lim mss = TO at *
  generalize oBody q fr lim mss = BO at *
  generalize oFinB q fr lim mss = FB at *
  generalize hTT : (if L < F then L else F) = T at *
  have hTF : T ≤ F ∧ T ≤ L := by rw [← hTT]; split <;> omega
  by_cases hgt : mss < T - fr
  · rw [if_pos hgt] at hto
    have hlt : fr < TO := by omega
    have u1 : decide (mss < T - fr) = true := by simpa using hgt
    have u2 : decide (fr < fr + mss) = true := by simp; omega
    cases hcl : q.cl
    · have hFB : FB = false := by rw [hfb]; rw [hcl]; rfl
      obtain ⟨i, hi⟩ : ∃ i : Nat, fr - q.base = (i : Int) := ⟨(fr - q.base).toNat, by omega⟩
      obtain ⟨j, hj⟩ : ∃ j : Nat, TO - q.base = (j : Int) := ⟨(TO - q.base).toNat, by omega⟩
      obtain ⟨g2, off, cap, rfl, hW⟩ := hV.pos (by omega)
      have hcap := hW.le
      rw [if_pos hlt] at hbo
      have hbo2 : BO = (q.l.drop i).take (j - i) := by rw [hbo, show (fr - q.base).toNat = i by omega, show (TO - fr).toNat = j - i by omega]
      have HP := Lib.hid (show qPiece q fr lim mss = ⟨fr, false, false, byteS ((q.l.drop i).take (j - i))⟩ by rw [hp, hFB, hbo2])
      have hj2 : (fr + mss) - q.base = (j : Int) := by omega
      have v1 : (i : Int) < (j : Int) := by omega
      have v2 : (j : Int) ≤ (cap : Int) := by omega
      have v3 : i ≤ j := by omega
      have v4 : j ≤ cap := by omega
      have v5 : i < cap := by omega
      have v9 : (cap = i) = False := eq_false (by omega)
      have wi : IntKind.i64.wrap (i : Int) = (i : Int) := by rw [IntKind.wrap_i64]; omega
      have wj : IntKind.i64.wrap (j : Int) = (j : Int) := by rw [IntKind.wrap_i64]; omega
      have hj3 : j ≤ q.l.length := by omega
      have c0 := hA.cell
      simp only [oqC] at c0
      have hlt0 := hA.lt
      have HWW := Lib.hid hW
      have HAH := Lib.hid hA
      clear hbo hbo2 hto hj hA hV hW his hfb hFB k6 k7 hp hfd hFq ok
      go_enter Try.func62, Try.ntmps62
      go_upto_region 11 with         (first
          | go_skip
          | (go_at_call 68; go_must (refine (HE.out _ hM.b).mono ?_; rintro e W ⟨rfl, hb⟩); replace hM := hM.kept hb; clear hb)
          | (go_at_call 83; go_must (refine (HF.out _ hM.b).mono ?_; rintro e W ⟨rfl, hb⟩); replace hM := hM.kept hb; clear hb)
          | ((with_reducible refine at_box_ ?_); refine wpList_box_mem rfl _ _ rfl _ rfl hM ?_; clear hM; intro gb W hM; first | (simp only [List.nil_append] at hM) | (simp only [List.cons_append, List.nil_append] at hM))
          | ((with_reducible refine at_alloc_ (T := 87) ?_); refine wpList_alloc_mem rfl 87 rfl _ zv_Piece _ rfl hM ?_; clear hM; intro gb W hM; first | (simp only [List.nil_append] at hM) | (simp only [List.cons_append, List.nil_append] at hM))
          | ((with_reducible refine at_load_ (T := 87) ?_); refine at_wanted_ (by rfl) ?_; first | (refine wpList_loadg_mem (by go_simp) 87 _ rfl 0 _ _ _ hM rfl rfl _ Try.underlying87 rfl sz_Piece ?_) | (refine wpList_loadg_mem (by go_simp) 87 _ rfl 1 _ _ _ hM rfl rfl _ Try.underlying87 rfl sz_Piece ?_))
          | ((with_reducible refine at_store_ (T := 87) ?_); first | (refine wpList_store_mem rfl 87 _ _ rfl 0 _ _ _ _ hM rfl rfl rfl rfl sz_Piece rfl ?_; clear hM; intro W hM; simp only [zE] at hM) | (refine wpList_store_mem rfl 87 _ _ rfl 1 _ _ _ _ hM rfl rfl rfl rfl sz_Piece rfl ?_; clear hM; intro W hM; simp only [zF, zE] at hM))
          | ((with_reducible refine at_load_ ?_); refine at_wanted_ (by rfl) ?_; first | (refine lM 0 hM rfl rfl rfl (by first | rfl | assumption) ?_) | (refine lM 1 hM rfl rfl rfl (by first | rfl | assumption) ?_))
          | ((with_reducible refine at_store_ ?_); first | (refine sM 0 hM rfl rfl rfl ?_; clear hM; intro W hM; simp only [zF, zE] at hM) | (refine sM 1 hM rfl rfl rfl ?_; clear hM; intro W hM; simp only [zF, zE] at hM)))
      have cW := (HAH.out.kept hM.b).cell
      have lW := (HAH.out.kept hM.b).lt
      simp only [oqC] at cW
      have hcv := conv_sub W.drew g2 off cap _ i j q.l ((HWW.out.move (Nat.lt_of_lt_of_le HWW.out.lt hM.b.size) (hM.b.block g2 HWW.out.lt)) : WinAt W.drew 0 1 g2 off cap _ _) v3 hj3
      change ∀ c : Nat, (convert 104 9 (.slice (some ⟨g2, off + i, none⟩) (j - i) c)).run Try.prog { heap := W.heap, tape := W.tape, drawn := W.drawn + 1, os := W.os, output := W.output } = .ok (.string (byteS ((q.l.drop i).take (j - i)))) { heap := W.heap, tape := W.tape, drawn := W.drawn + 1, os := W.os, output := W.output } at hcv
      have v6 : (j : Int) ≤ (q.l.length : Int) := by omega
      have v7 : (0 : Int) ≤ (i : Int) := by omega
      have v8 : i < j := by omega
      refine wp_region_still_tail 19 (by kernel_rfl) (by kernel_rfl) ?_
      simp only [List.take_succ_cons, List.take_zero, List.drop_succ_cons, List.drop_zero]
      repeat still_step
      refine wpStill_conv (by rfl) _ _ _ rfl _ _ rfl (hcv _) ?_
      simp only [Act.put, zD, zE, zF]
      repeat still_step
      refine wpStill_nil ?_
      change wpList _ _ _ _ _ W.drew
      clear hcv cW lW c0 hlt0
      replace hM := hM.kept (Below.refl W.heap.size W).drew
      generalize W.drew = W9 at hM ⊢
      go_upto_region 12 with         (first
          | go_skip
          | ((with_reducible refine at_box_ ?_); refine wpList_box_mem rfl _ _ rfl _ rfl hM ?_; clear hM; intro gb W hM; first | (simp only [List.nil_append] at hM) | (simp only [List.cons_append, List.nil_append] at hM))
          | ((with_reducible refine at_alloc_ (T := 87) ?_); refine wpList_alloc_mem rfl 87 rfl _ zv_Piece _ rfl hM ?_; clear hM; intro gb W hM; first | (simp only [List.nil_append] at hM) | (simp only [List.cons_append, List.nil_append] at hM))
          | ((with_reducible refine at_load_ (T := 87) ?_); refine at_wanted_ (by rfl) ?_; first | (refine wpList_loadg_mem (by go_simp) 87 _ rfl 0 _ _ _ hM rfl rfl _ Try.underlying87 rfl sz_Piece ?_) | (refine wpList_loadg_mem (by go_simp) 87 _ rfl 1 _ _ _ hM rfl rfl _ Try.underlying87 rfl sz_Piece ?_))
          | ((with_reducible refine at_store_ (T := 87) ?_); first | (refine wpList_store_mem rfl 87 _ _ rfl 0 _ _ _ _ hM rfl rfl rfl rfl sz_Piece rfl ?_; clear hM; intro W hM; simp only [zE] at hM) | (refine wpList_store_mem rfl 87 _ _ rfl 1 _ _ _ _ hM rfl rfl rfl rfl sz_Piece rfl ?_; clear hM; intro W hM; simp only [zF, zE] at hM))
          | ((with_reducible refine at_load_ ?_); refine at_wanted_ (by rfl) ?_; first | (refine lM 0 hM rfl rfl rfl (by first | rfl | assumption) ?_) | (refine lM 1 hM rfl rfl rfl (by first | rfl | assumption) ?_))
          | ((with_reducible refine at_store_ ?_); first | (refine sM 0 hM rfl rfl rfl ?_; clear hM; intro W hM; simp only [zF, zE] at hM) | (refine sM 1 hM rfl rfl rfl ?_; clear hM; intro W hM; simp only [zF, zE] at hM)))
      have cW := (HAH.out.kept hM.b).cell
      have lW := (HAH.out.kept hM.b).lt
      simp only [oqC] at cW
      go_wp2_with (first
        | go_skip
        | (go_at_call 68; go_must (refine (HE.out _ hM.b).mono ?_; rintro e W ⟨rfl, hb⟩); replace hM := hM.kept hb; clear hb)
        | (go_at_call 83; go_must (refine (HF.out _ hM.b).mono ?_; rintro e W ⟨rfl, hb⟩); replace hM := hM.kept hb; clear hb)
        | ((with_reducible refine at_box_ ?_); refine wpList_box_mem rfl _ _ rfl _ rfl hM ?_; clear hM; intro gb W hM; first | (simp only [List.nil_append] at hM) | (simp only [List.cons_append, List.nil_append] at hM))
        | ((with_reducible refine at_alloc_ (T := 87) ?_); refine wpList_alloc_mem rfl 87 rfl _ zv_Piece _ rfl hM ?_; clear hM; intro gb W hM; first | (simp only [List.nil_append] at hM) | (simp only [List.cons_append, List.nil_append] at hM))
        | ((with_reducible refine at_load_ (T := 87) ?_); refine at_wanted_ (by rfl) ?_; first | (refine wpList_loadg_mem (by go_simp) 87 _ rfl 0 _ _ _ hM rfl rfl _ Try.underlying87 rfl sz_Piece ?_) | (refine wpList_loadg_mem (by go_simp) 87 _ rfl 1 _ _ _ hM rfl rfl _ Try.underlying87 rfl sz_Piece ?_))
        | ((with_reducible refine at_store_ (T := 87) ?_); first | (refine wpList_store_mem rfl 87 _ _ rfl 0 _ _ _ _ hM rfl rfl rfl rfl sz_Piece rfl ?_; clear hM; intro W hM; simp only [zE] at hM) | (refine wpList_store_mem rfl 87 _ _ rfl 1 _ _ _ _ hM rfl rfl rfl rfl sz_Piece rfl ?_; clear hM; intro W hM; simp only [zF, zE] at hM))
        | ((with_reducible refine at_load_ ?_); refine at_wanted_ (by rfl) ?_; first | (refine lM 0 hM rfl rfl rfl (by first | rfl | assumption) ?_) | (refine lM 1 hM rfl rfl rfl (by first | rfl | assumption) ?_))
        | ((with_reducible refine at_store_ ?_); first | (refine sM 0 hM rfl rfl rfl ?_; clear hM; intro W hM; simp only [zF, zE] at hM) | (refine sM 1 hM rfl rfl rfl ?_; clear hM; intro W hM; simp only [zF, zE] at hM)))
      have hcz := hM.cells 0 rfl
      refine bodyPost_ret (v := .tuple #[.agg (cPiece (⟨fr, false, false, byteS ((q.l.drop i).take (j - i))⟩)).toArray, .bool true]) (by simp [results, Try.results62, go_sem, hcz, cPiece]) rfl ?_
      exact ⟨by rw [HP.out], hM.b⟩
    · have u4 : ((fr + mss : Int) == F) = false := by simp; omega
      have u6 : (if fr < fr + mss then fr + mss else fr) = fr + mss := if_pos (by omega)
      have hFB : FB = false := by rw [hfb]; rw [hcl, if_pos hlt, decide_eq_false (show ¬ TO = F by omega)]; rfl
      obtain ⟨i, hi⟩ : ∃ i : Nat, fr - q.base = (i : Int) := ⟨(fr - q.base).toNat, by omega⟩
      obtain ⟨j, hj⟩ : ∃ j : Nat, TO - q.base = (j : Int) := ⟨(TO - q.base).toNat, by omega⟩
      obtain ⟨g2, off, cap, rfl, hW⟩ := hV.pos (by omega)
      have hcap := hW.le
      rw [if_pos hlt] at hbo
      have hbo2 : BO = (q.l.drop i).take (j - i) := by rw [hbo, show (fr - q.base).toNat = i by omega, show (TO - fr).toNat = j - i by omega]
      have HP := Lib.hid (show qPiece q fr lim mss = ⟨fr, false, false, byteS ((q.l.drop i).take (j - i))⟩ by rw [hp, hFB, hbo2])
      have hj2 : (fr + mss) - q.base = (j : Int) := by omega
      have v1 : (i : Int) < (j : Int) := by omega
      have v2 : (j : Int) ≤ (cap : Int) := by omega
      have v3 : i ≤ j := by omega
      have v4 : j ≤ cap := by omega
      have v5 : i < cap := by omega
      have v9 : (cap = i) = False := eq_false (by omega)
      have wi : IntKind.i64.wrap (i : Int) = (i : Int) := by rw [IntKind.wrap_i64]; omega
      have wj : IntKind.i64.wrap (j : Int) = (j : Int) := by rw [IntKind.wrap_i64]; omega
      have hj3 : j ≤ q.l.length := by omega
      have c0 := hA.cell
      simp only [oqC] at c0
      have hlt0 := hA.lt
      have HWW := Lib.hid hW
      have HAH := Lib.hid hA
      clear hbo hbo2 hto hj hA hV hW his hfb hFB k6 k7 hp hfd hFq ok
      go_enter Try.func62, Try.ntmps62
      go_upto_region 11 with         (first
          | go_skip
          | (go_at_call 68; go_must (refine (HE.out _ hM.b).mono ?_; rintro e W ⟨rfl, hb⟩); replace hM := hM.kept hb; clear hb)
          | (go_at_call 83; go_must (refine (HF.out _ hM.b).mono ?_; rintro e W ⟨rfl, hb⟩); replace hM := hM.kept hb; clear hb)
          | ((with_reducible refine at_box_ ?_); refine wpList_box_mem rfl _ _ rfl _ rfl hM ?_; clear hM; intro gb W hM; first | (simp only [List.nil_append] at hM) | (simp only [List.cons_append, List.nil_append] at hM))
          | ((with_reducible refine at_alloc_ (T := 87) ?_); refine wpList_alloc_mem rfl 87 rfl _ zv_Piece _ rfl hM ?_; clear hM; intro gb W hM; first | (simp only [List.nil_append] at hM) | (simp only [List.cons_append, List.nil_append] at hM))
          | ((with_reducible refine at_load_ (T := 87) ?_); refine at_wanted_ (by rfl) ?_; first | (refine wpList_loadg_mem (by go_simp) 87 _ rfl 0 _ _ _ hM rfl rfl _ Try.underlying87 rfl sz_Piece ?_) | (refine wpList_loadg_mem (by go_simp) 87 _ rfl 1 _ _ _ hM rfl rfl _ Try.underlying87 rfl sz_Piece ?_))
          | ((with_reducible refine at_store_ (T := 87) ?_); first | (refine wpList_store_mem rfl 87 _ _ rfl 0 _ _ _ _ hM rfl rfl rfl rfl sz_Piece rfl ?_; clear hM; intro W hM; simp only [zE] at hM) | (refine wpList_store_mem rfl 87 _ _ rfl 1 _ _ _ _ hM rfl rfl rfl rfl sz_Piece rfl ?_; clear hM; intro W hM; simp only [zF, zE] at hM))
          | ((with_reducible refine at_load_ ?_); refine at_wanted_ (by rfl) ?_; first | (refine lM 0 hM rfl rfl rfl (by first | rfl | assumption) ?_) | (refine lM 1 hM rfl rfl rfl (by first | rfl | assumption) ?_))
          | ((with_reducible refine at_store_ ?_); first | (refine sM 0 hM rfl rfl rfl ?_; clear hM; intro W hM; simp only [zF, zE] at hM) | (refine sM 1 hM rfl rfl rfl ?_; clear hM; intro W hM; simp only [zF, zE] at hM)))
      have cW := (HAH.out.kept hM.b).cell
      have lW := (HAH.out.kept hM.b).lt
      simp only [oqC] at cW
      have hcv := conv_sub W.drew g2 off cap _ i j q.l ((HWW.out.move (Nat.lt_of_lt_of_le HWW.out.lt hM.b.size) (hM.b.block g2 HWW.out.lt)) : WinAt W.drew 0 1 g2 off cap _ _) v3 hj3
      change ∀ c : Nat, (convert 104 9 (.slice (some ⟨g2, off + i, none⟩) (j - i) c)).run Try.prog { heap := W.heap, tape := W.tape, drawn := W.drawn + 1, os := W.os, output := W.output } = .ok (.string (byteS ((q.l.drop i).take (j - i)))) { heap := W.heap, tape := W.tape, drawn := W.drawn + 1, os := W.os, output := W.output } at hcv
      have v6 : (j : Int) ≤ (q.l.length : Int) := by omega
      have v7 : (0 : Int) ≤ (i : Int) := by omega
      have v8 : i < j := by omega
      refine wp_region_still_tail 19 (by kernel_rfl) (by kernel_rfl) ?_
      simp only [List.take_succ_cons, List.take_zero, List.drop_succ_cons, List.drop_zero]
      repeat still_step
      refine wpStill_conv (by rfl) _ _ _ rfl _ _ rfl (hcv _) ?_
      simp only [Act.put, zD, zE, zF]
      repeat still_step
      refine wpStill_nil ?_
      change wpList _ _ _ _ _ W.drew
      clear hcv cW lW c0 hlt0
      replace hM := hM.kept (Below.refl W.heap.size W).drew
      generalize W.drew = W9 at hM ⊢
      go_upto_region 12 with         (first
          | go_skip
          | ((with_reducible refine at_box_ ?_); refine wpList_box_mem rfl _ _ rfl _ rfl hM ?_; clear hM; intro gb W hM; first | (simp only [List.nil_append] at hM) | (simp only [List.cons_append, List.nil_append] at hM))
          | ((with_reducible refine at_alloc_ (T := 87) ?_); refine wpList_alloc_mem rfl 87 rfl _ zv_Piece _ rfl hM ?_; clear hM; intro gb W hM; first | (simp only [List.nil_append] at hM) | (simp only [List.cons_append, List.nil_append] at hM))
          | ((with_reducible refine at_load_ (T := 87) ?_); refine at_wanted_ (by rfl) ?_; first | (refine wpList_loadg_mem (by go_simp) 87 _ rfl 0 _ _ _ hM rfl rfl _ Try.underlying87 rfl sz_Piece ?_) | (refine wpList_loadg_mem (by go_simp) 87 _ rfl 1 _ _ _ hM rfl rfl _ Try.underlying87 rfl sz_Piece ?_))
          | ((with_reducible refine at_store_ (T := 87) ?_); first | (refine wpList_store_mem rfl 87 _ _ rfl 0 _ _ _ _ hM rfl rfl rfl rfl sz_Piece rfl ?_; clear hM; intro W hM; simp only [zE] at hM) | (refine wpList_store_mem rfl 87 _ _ rfl 1 _ _ _ _ hM rfl rfl rfl rfl sz_Piece rfl ?_; clear hM; intro W hM; simp only [zF, zE] at hM))
          | ((with_reducible refine at_load_ ?_); refine at_wanted_ (by rfl) ?_; first | (refine lM 0 hM rfl rfl rfl (by first | rfl | assumption) ?_) | (refine lM 1 hM rfl rfl rfl (by first | rfl | assumption) ?_))
          | ((with_reducible refine at_store_ ?_); first | (refine sM 0 hM rfl rfl rfl ?_; clear hM; intro W hM; simp only [zF, zE] at hM) | (refine sM 1 hM rfl rfl rfl ?_; clear hM; intro W hM; simp only [zF, zE] at hM)))
      have cW := (HAH.out.kept hM.b).cell
      have lW := (HAH.out.kept hM.b).lt
      simp only [oqC] at cW
      go_wp2_with (first
        | go_skip
        | (go_at_call 68; go_must (refine (HE.out _ hM.b).mono ?_; rintro e W ⟨rfl, hb⟩); replace hM := hM.kept hb; clear hb)
        | (go_at_call 83; go_must (refine (HF.out _ hM.b).mono ?_; rintro e W ⟨rfl, hb⟩); replace hM := hM.kept hb; clear hb)
        | ((with_reducible refine at_box_ ?_); refine wpList_box_mem rfl _ _ rfl _ rfl hM ?_; clear hM; intro gb W hM; first | (simp only [List.nil_append] at hM) | (simp only [List.cons_append, List.nil_append] at hM))
        | ((with_reducible refine at_alloc_ (T := 87) ?_); refine wpList_alloc_mem rfl 87 rfl _ zv_Piece _ rfl hM ?_; clear hM; intro gb W hM; first | (simp only [List.nil_append] at hM) | (simp only [List.cons_append, List.nil_append] at hM))
        | ((with_reducible refine at_load_ (T := 87) ?_); refine at_wanted_ (by rfl) ?_; first | (refine wpList_loadg_mem (by go_simp) 87 _ rfl 0 _ _ _ hM rfl rfl _ Try.underlying87 rfl sz_Piece ?_) | (refine wpList_loadg_mem (by go_simp) 87 _ rfl 1 _ _ _ hM rfl rfl _ Try.underlying87 rfl sz_Piece ?_))
        | ((with_reducible refine at_store_ (T := 87) ?_); first | (refine wpList_store_mem rfl 87 _ _ rfl 0 _ _ _ _ hM rfl rfl rfl rfl sz_Piece rfl ?_; clear hM; intro W hM; simp only [zE] at hM) | (refine wpList_store_mem rfl 87 _ _ rfl 1 _ _ _ _ hM rfl rfl rfl rfl sz_Piece rfl ?_; clear hM; intro W hM; simp only [zF, zE] at hM))
        | ((with_reducible refine at_load_ ?_); refine at_wanted_ (by rfl) ?_; first | (refine lM 0 hM rfl rfl rfl (by first | rfl | assumption) ?_) | (refine lM 1 hM rfl rfl rfl (by first | rfl | assumption) ?_))
        | ((with_reducible refine at_store_ ?_); first | (refine sM 0 hM rfl rfl rfl ?_; clear hM; intro W hM; simp only [zF, zE] at hM) | (refine sM 1 hM rfl rfl rfl ?_; clear hM; intro W hM; simp only [zF, zE] at hM)))
      have hcz := hM.cells 0 rfl
      refine bodyPost_ret (v := .tuple #[.agg (cPiece (⟨fr, false, false, byteS ((q.l.drop i).take (j - i))⟩)).toArray, .bool true]) (by simp [results, Try.results62, go_sem, hcz, cPiece]) rfl ?_
      exact ⟨by rw [HP.out], hM.b⟩
  · rw [if_neg hgt] at hto
    subst hto
    have u1 : decide (mss < TO - fr) = false := by simpa using hgt
    by_cases hlt : fr < TO
    · have u2 : decide (fr < TO) = true := by simpa using hlt
      have u6 : (if fr < TO then TO else fr) = TO := if_pos hlt
      cases hcl : q.cl
      · have hFB : FB = false := by rw [hfb]; rw [hcl]; rfl
        obtain ⟨i, hi⟩ : ∃ i : Nat, fr - q.base = (i : Int) := ⟨(fr - q.base).toNat, by omega⟩
        obtain ⟨j, hj⟩ : ∃ j : Nat, TO - q.base = (j : Int) := ⟨(TO - q.base).toNat, by omega⟩
        obtain ⟨g2, off, cap, rfl, hW⟩ := hV.pos (by omega)
        have hcap := hW.le
        rw [if_pos hlt] at hbo
        have hbo2 : BO = (q.l.drop i).take (j - i) := by rw [hbo, show (fr - q.base).toNat = i by omega, show (TO - fr).toNat = j - i by omega]
        have HP := Lib.hid (show qPiece q fr lim mss = ⟨fr, false, false, byteS ((q.l.drop i).take (j - i))⟩ by rw [hp, hFB, hbo2])
        have hj2 : TO - q.base = (j : Int) := by omega
        have v1 : (i : Int) < (j : Int) := by omega
        have v2 : (j : Int) ≤ (cap : Int) := by omega
        have v3 : i ≤ j := by omega
        have v4 : j ≤ cap := by omega
        have v5 : i < cap := by omega
        have v9 : (cap = i) = False := eq_false (by omega)
        have wi : IntKind.i64.wrap (i : Int) = (i : Int) := by rw [IntKind.wrap_i64]; omega
        have wj : IntKind.i64.wrap (j : Int) = (j : Int) := by rw [IntKind.wrap_i64]; omega
        have hj3 : j ≤ q.l.length := by omega
        have c0 := hA.cell
        simp only [oqC] at c0
        have hlt0 := hA.lt
        have HWW := Lib.hid hW
        have HAH := Lib.hid hA
        clear hbo hbo2 hj hA hV hW his hfb hFB k6 k7 hp hfd hFq ok
        go_enter Try.func62, Try.ntmps62
        go_upto_region 11 with         (first
          | go_skip
          | (go_at_call 68; go_must (refine (HE.out _ hM.b).mono ?_; rintro e W ⟨rfl, hb⟩); replace hM := hM.kept hb; clear hb)
          | (go_at_call 83; go_must (refine (HF.out _ hM.b).mono ?_; rintro e W ⟨rfl, hb⟩); replace hM := hM.kept hb; clear hb)
          | ((with_reducible refine at_box_ ?_); refine wpList_box_mem rfl _ _ rfl _ rfl hM ?_; clear hM; intro gb W hM; first | (simp only [List.nil_append] at hM) | (simp only [List.cons_append, List.nil_append] at hM))
          | ((with_reducible refine at_alloc_ (T := 87) ?_); refine wpList_alloc_mem rfl 87 rfl _ zv_Piece _ rfl hM ?_; clear hM; intro gb W hM; first | (simp only [List.nil_append] at hM) | (simp only [List.cons_append, List.nil_append] at hM))
          | ((with_reducible refine at_load_ (T := 87) ?_); refine at_wanted_ (by rfl) ?_; first | (refine wpList_loadg_mem (by go_simp) 87 _ rfl 0 _ _ _ hM rfl rfl _ Try.underlying87 rfl sz_Piece ?_) | (refine wpList_loadg_mem (by go_simp) 87 _ rfl 1 _ _ _ hM rfl rfl _ Try.underlying87 rfl sz_Piece ?_))
          | ((with_reducible refine at_store_ (T := 87) ?_); first | (refine wpList_store_mem rfl 87 _ _ rfl 0 _ _ _ _ hM rfl rfl rfl rfl sz_Piece rfl ?_; clear hM; intro W hM; simp only [zE] at hM) | (refine wpList_store_mem rfl 87 _ _ rfl 1 _ _ _ _ hM rfl rfl rfl rfl sz_Piece rfl ?_; clear hM; intro W hM; simp only [zF, zE] at hM))
          | ((with_reducible refine at_load_ ?_); refine at_wanted_ (by rfl) ?_; first | (refine lM 0 hM rfl rfl rfl (by first | rfl | assumption) ?_) | (refine lM 1 hM rfl rfl rfl (by first | rfl | assumption) ?_))
          | ((with_reducible refine at_store_ ?_); first | (refine sM 0 hM rfl rfl rfl ?_; clear hM; intro W hM; simp only [zF, zE] at hM) | (refine sM 1 hM rfl rfl rfl ?_; clear hM; intro W hM; simp only [zF, zE] at hM)))
        have cW := (HAH.out.kept hM.b).cell
        have lW := (HAH.out.kept hM.b).lt
        simp only [oqC] at cW
        have hcv := conv_sub W.drew g2 off cap _ i j q.l ((HWW.out.move (Nat.lt_of_lt_of_le HWW.out.lt hM.b.size) (hM.b.block g2 HWW.out.lt)) : WinAt W.drew 0 1 g2 off cap _ _) v3 hj3
        change ∀ c : Nat, (convert 104 9 (.slice (some ⟨g2, off + i, none⟩) (j - i) c)).run Try.prog { heap := W.heap, tape := W.tape, drawn := W.drawn + 1, os := W.os, output := W.output } = .ok (.string (byteS ((q.l.drop i).take (j - i)))) { heap := W.heap, tape := W.tape, drawn := W.drawn + 1, os := W.os, output := W.output } at hcv
        have v6 : (j : Int) ≤ (q.l.length : Int) := by omega
        have v7 : (0 : Int) ≤ (i : Int) := by omega
        have v8 : i < j := by omega
        refine wp_region_still_tail 19 (by kernel_rfl) (by kernel_rfl) ?_
        simp only [List.take_succ_cons, List.take_zero, List.drop_succ_cons, List.drop_zero]
        repeat still_step
        refine wpStill_conv (by rfl) _ _ _ rfl _ _ rfl (hcv _) ?_
        simp only [Act.put, zD, zE, zF]
        repeat still_step
        refine wpStill_nil ?_
        change wpList _ _ _ _ _ W.drew
        clear hcv cW lW c0 hlt0
        replace hM := hM.kept (Below.refl W.heap.size W).drew
        generalize W.drew = W9 at hM ⊢
        go_upto_region 12 with         (first
          | go_skip
          | ((with_reducible refine at_box_ ?_); refine wpList_box_mem rfl _ _ rfl _ rfl hM ?_; clear hM; intro gb W hM; first | (simp only [List.nil_append] at hM) | (simp only [List.cons_append, List.nil_append] at hM))
          | ((with_reducible refine at_alloc_ (T := 87) ?_); refine wpList_alloc_mem rfl 87 rfl _ zv_Piece _ rfl hM ?_; clear hM; intro gb W hM; first | (simp only [List.nil_append] at hM) | (simp only [List.cons_append, List.nil_append] at hM))
          | ((with_reducible refine at_load_ (T := 87) ?_); refine at_wanted_ (by rfl) ?_; first | (refine wpList_loadg_mem (by go_simp) 87 _ rfl 0 _ _ _ hM rfl rfl _ Try.underlying87 rfl sz_Piece ?_) | (refine wpList_loadg_mem (by go_simp) 87 _ rfl 1 _ _ _ hM rfl rfl _ Try.underlying87 rfl sz_Piece ?_))
          | ((with_reducible refine at_store_ (T := 87) ?_); first | (refine wpList_store_mem rfl 87 _ _ rfl 0 _ _ _ _ hM rfl rfl rfl rfl sz_Piece rfl ?_; clear hM; intro W hM; simp only [zE] at hM) | (refine wpList_store_mem rfl 87 _ _ rfl 1 _ _ _ _ hM rfl rfl rfl rfl sz_Piece rfl ?_; clear hM; intro W hM; simp only [zF, zE] at hM))
          | ((with_reducible refine at_load_ ?_); refine at_wanted_ (by rfl) ?_; first | (refine lM 0 hM rfl rfl rfl (by first | rfl | assumption) ?_) | (refine lM 1 hM rfl rfl rfl (by first | rfl | assumption) ?_))
          | ((with_reducible refine at_store_ ?_); first | (refine sM 0 hM rfl rfl rfl ?_; clear hM; intro W hM; simp only [zF, zE] at hM) | (refine sM 1 hM rfl rfl rfl ?_; clear hM; intro W hM; simp only [zF, zE] at hM)))
        have cW := (HAH.out.kept hM.b).cell
        have lW := (HAH.out.kept hM.b).lt
        simp only [oqC] at cW
        go_wp2_with (first
          | go_skip
          | (go_at_call 68; go_must (refine (HE.out _ hM.b).mono ?_; rintro e W ⟨rfl, hb⟩); replace hM := hM.kept hb; clear hb)
          | (go_at_call 83; go_must (refine (HF.out _ hM.b).mono ?_; rintro e W ⟨rfl, hb⟩); replace hM := hM.kept hb; clear hb)
          | ((with_reducible refine at_box_ ?_); refine wpList_box_mem rfl _ _ rfl _ rfl hM ?_; clear hM; intro gb W hM; first | (simp only [List.nil_append] at hM) | (simp only [List.cons_append, List.nil_append] at hM))
          | ((with_reducible refine at_alloc_ (T := 87) ?_); refine wpList_alloc_mem rfl 87 rfl _ zv_Piece _ rfl hM ?_; clear hM; intro gb W hM; first | (simp only [List.nil_append] at hM) | (simp only [List.cons_append, List.nil_append] at hM))
          | ((with_reducible refine at_load_ (T := 87) ?_); refine at_wanted_ (by rfl) ?_; first | (refine wpList_loadg_mem (by go_simp) 87 _ rfl 0 _ _ _ hM rfl rfl _ Try.underlying87 rfl sz_Piece ?_) | (refine wpList_loadg_mem (by go_simp) 87 _ rfl 1 _ _ _ hM rfl rfl _ Try.underlying87 rfl sz_Piece ?_))
          | ((with_reducible refine at_store_ (T := 87) ?_); first | (refine wpList_store_mem rfl 87 _ _ rfl 0 _ _ _ _ hM rfl rfl rfl rfl sz_Piece rfl ?_; clear hM; intro W hM; simp only [zE] at hM) | (refine wpList_store_mem rfl 87 _ _ rfl 1 _ _ _ _ hM rfl rfl rfl rfl sz_Piece rfl ?_; clear hM; intro W hM; simp only [zF, zE] at hM))
          | ((with_reducible refine at_load_ ?_); refine at_wanted_ (by rfl) ?_; first | (refine lM 0 hM rfl rfl rfl (by first | rfl | assumption) ?_) | (refine lM 1 hM rfl rfl rfl (by first | rfl | assumption) ?_))
          | ((with_reducible refine at_store_ ?_); first | (refine sM 0 hM rfl rfl rfl ?_; clear hM; intro W hM; simp only [zF, zE] at hM) | (refine sM 1 hM rfl rfl rfl ?_; clear hM; intro W hM; simp only [zF, zE] at hM)))
        have hcz := hM.cells 0 rfl
        refine bodyPost_ret (v := .tuple #[.agg (cPiece (⟨fr, false, false, byteS ((q.l.drop i).take (j - i))⟩)).toArray, .bool true]) (by simp [results, Try.results62, go_sem, hcz, cPiece]) rfl ?_
        exact ⟨by rw [HP.out], hM.b⟩
      · by_cases hTe : TO = F
        · have u4 : ((TO : Int) == F) = true := by simpa using hTe
          by_cases hFL : F < L
          · have u5 : decide (F < L) = true := by simpa using hFL
            have hFB : FB = true := by rw [hfb]; rw [hcl, if_pos hlt, decide_eq_true hTe, decide_eq_true hFL]; rfl
            obtain ⟨i, hi⟩ : ∃ i : Nat, fr - q.base = (i : Int) := ⟨(fr - q.base).toNat, by omega⟩
            obtain ⟨j, hj⟩ : ∃ j : Nat, TO - q.base = (j : Int) := ⟨(TO - q.base).toNat, by omega⟩
            obtain ⟨g2, off, cap, rfl, hW⟩ := hV.pos (by omega)
            have hcap := hW.le
            rw [if_pos hlt] at hbo
            have hbo2 : BO = (q.l.drop i).take (j - i) := by rw [hbo, show (fr - q.base).toNat = i by omega, show (TO - fr).toNat = j - i by omega]
            have HP := Lib.hid (show qPiece q fr lim mss = ⟨fr, false, true, byteS ((q.l.drop i).take (j - i))⟩ by rw [hp, hFB, hbo2])
            have hj2 : TO - q.base = (j : Int) := by omega
            have v1 : (i : Int) < (j : Int) := by omega
            have v2 : (j : Int) ≤ (cap : Int) := by omega
            have v3 : i ≤ j := by omega
            have v4 : j ≤ cap := by omega
            have v5 : i < cap := by omega
            have v9 : (cap = i) = False := eq_false (by omega)
            have wi : IntKind.i64.wrap (i : Int) = (i : Int) := by rw [IntKind.wrap_i64]; omega
            have wj : IntKind.i64.wrap (j : Int) = (j : Int) := by rw [IntKind.wrap_i64]; omega
            clear hTe hFL
            have hj3 : j ≤ q.l.length := by omega
            have c0 := hA.cell
            simp only [oqC] at c0
            have hlt0 := hA.lt
            have HWW := Lib.hid hW
            have HAH := Lib.hid hA
            clear hbo hbo2 hj hA hV hW his hfb hFB k6 k7 hp hfd hFq ok
            go_enter Try.func62, Try.ntmps62
            go_upto_region 11 with         (first
          | go_skip
          | (go_at_call 68; go_must (refine (HE.out _ hM.b).mono ?_; rintro e W ⟨rfl, hb⟩); replace hM := hM.kept hb; clear hb)
          | (go_at_call 83; go_must (refine (HF.out _ hM.b).mono ?_; rintro e W ⟨rfl, hb⟩); replace hM := hM.kept hb; clear hb)
          | ((with_reducible refine at_box_ ?_); refine wpList_box_mem rfl _ _ rfl _ rfl hM ?_; clear hM; intro gb W hM; first | (simp only [List.nil_append] at hM) | (simp only [List.cons_append, List.nil_append] at hM))
          | ((with_reducible refine at_alloc_ (T := 87) ?_); refine wpList_alloc_mem rfl 87 rfl _ zv_Piece _ rfl hM ?_; clear hM; intro gb W hM; first | (simp only [List.nil_append] at hM) | (simp only [List.cons_append, List.nil_append] at hM))
          | ((with_reducible refine at_load_ (T := 87) ?_); refine at_wanted_ (by rfl) ?_; first | (refine wpList_loadg_mem (by go_simp) 87 _ rfl 0 _ _ _ hM rfl rfl _ Try.underlying87 rfl sz_Piece ?_) | (refine wpList_loadg_mem (by go_simp) 87 _ rfl 1 _ _ _ hM rfl rfl _ Try.underlying87 rfl sz_Piece ?_))
          | ((with_reducible refine at_store_ (T := 87) ?_); first | (refine wpList_store_mem rfl 87 _ _ rfl 0 _ _ _ _ hM rfl rfl rfl rfl sz_Piece rfl ?_; clear hM; intro W hM; simp only [zE] at hM) | (refine wpList_store_mem rfl 87 _ _ rfl 1 _ _ _ _ hM rfl rfl rfl rfl sz_Piece rfl ?_; clear hM; intro W hM; simp only [zF, zE] at hM))
          | ((with_reducible refine at_load_ ?_); refine at_wanted_ (by rfl) ?_; first | (refine lM 0 hM rfl rfl rfl (by first | rfl | assumption) ?_) | (refine lM 1 hM rfl rfl rfl (by first | rfl | assumption) ?_))
          | ((with_reducible refine at_store_ ?_); first | (refine sM 0 hM rfl rfl rfl ?_; clear hM; intro W hM; simp only [zF, zE] at hM) | (refine sM 1 hM rfl rfl rfl ?_; clear hM; intro W hM; simp only [zF, zE] at hM)))
            have cW := (HAH.out.kept hM.b).cell
            have lW := (HAH.out.kept hM.b).lt
            simp only [oqC] at cW
            have hcv := conv_sub W.drew g2 off cap _ i j q.l ((HWW.out.move (Nat.lt_of_lt_of_le HWW.out.lt hM.b.size) (hM.b.block g2 HWW.out.lt)) : WinAt W.drew 0 1 g2 off cap _ _) v3 hj3
            change ∀ c : Nat, (convert 104 9 (.slice (some ⟨g2, off + i, none⟩) (j - i) c)).run Try.prog { heap := W.heap, tape := W.tape, drawn := W.drawn + 1, os := W.os, output := W.output } = .ok (.string (byteS ((q.l.drop i).take (j - i)))) { heap := W.heap, tape := W.tape, drawn := W.drawn + 1, os := W.os, output := W.output } at hcv
            have v6 : (j : Int) ≤ (q.l.length : Int) := by omega
            have v7 : (0 : Int) ≤ (i : Int) := by omega
            have v8 : i < j := by omega
            refine wp_region_still_tail 19 (by kernel_rfl) (by kernel_rfl) ?_
            simp only [List.take_succ_cons, List.take_zero, List.drop_succ_cons, List.drop_zero]
            repeat still_step
            refine wpStill_conv (by rfl) _ _ _ rfl _ _ rfl (hcv _) ?_
            simp only [Act.put, zD, zE, zF]
            repeat still_step
            refine wpStill_nil ?_
            change wpList _ _ _ _ _ W.drew
            clear hcv cW lW c0 hlt0
            replace hM := hM.kept (Below.refl W.heap.size W).drew
            generalize W.drew = W9 at hM ⊢
            go_upto_region 12 with         (first
          | go_skip
          | ((with_reducible refine at_box_ ?_); refine wpList_box_mem rfl _ _ rfl _ rfl hM ?_; clear hM; intro gb W hM; first | (simp only [List.nil_append] at hM) | (simp only [List.cons_append, List.nil_append] at hM))
          | ((with_reducible refine at_alloc_ (T := 87) ?_); refine wpList_alloc_mem rfl 87 rfl _ zv_Piece _ rfl hM ?_; clear hM; intro gb W hM; first | (simp only [List.nil_append] at hM) | (simp only [List.cons_append, List.nil_append] at hM))
          | ((with_reducible refine at_load_ (T := 87) ?_); refine at_wanted_ (by rfl) ?_; first | (refine wpList_loadg_mem (by go_simp) 87 _ rfl 0 _ _ _ hM rfl rfl _ Try.underlying87 rfl sz_Piece ?_) | (refine wpList_loadg_mem (by go_simp) 87 _ rfl 1 _ _ _ hM rfl rfl _ Try.underlying87 rfl sz_Piece ?_))
          | ((with_reducible refine at_store_ (T := 87) ?_); first | (refine wpList_store_mem rfl 87 _ _ rfl 0 _ _ _ _ hM rfl rfl rfl rfl sz_Piece rfl ?_; clear hM; intro W hM; simp only [zE] at hM) | (refine wpList_store_mem rfl 87 _ _ rfl 1 _ _ _ _ hM rfl rfl rfl rfl sz_Piece rfl ?_; clear hM; intro W hM; simp only [zF, zE] at hM))
          | ((with_reducible refine at_load_ ?_); refine at_wanted_ (by rfl) ?_; first | (refine lM 0 hM rfl rfl rfl (by first | rfl | assumption) ?_) | (refine lM 1 hM rfl rfl rfl (by first | rfl | assumption) ?_))
          | ((with_reducible refine at_store_ ?_); first | (refine sM 0 hM rfl rfl rfl ?_; clear hM; intro W hM; simp only [zF, zE] at hM) | (refine sM 1 hM rfl rfl rfl ?_; clear hM; intro W hM; simp only [zF, zE] at hM)))
            have cW := (HAH.out.kept hM.b).cell
            have lW := (HAH.out.kept hM.b).lt
            simp only [oqC] at cW
            go_wp2_with (first
              | go_skip
              | (go_at_call 68; go_must (refine (HE.out _ hM.b).mono ?_; rintro e W ⟨rfl, hb⟩); replace hM := hM.kept hb; clear hb)
              | (go_at_call 83; go_must (refine (HF.out _ hM.b).mono ?_; rintro e W ⟨rfl, hb⟩); replace hM := hM.kept hb; clear hb)
              | ((with_reducible refine at_box_ ?_); refine wpList_box_mem rfl _ _ rfl _ rfl hM ?_; clear hM; intro gb W hM; first | (simp only [List.nil_append] at hM) | (simp only [List.cons_append, List.nil_append] at hM))
              | ((with_reducible refine at_alloc_ (T := 87) ?_); refine wpList_alloc_mem rfl 87 rfl _ zv_Piece _ rfl hM ?_; clear hM; intro gb W hM; first | (simp only [List.nil_append] at hM) | (simp only [List.cons_append, List.nil_append] at hM))
              | ((with_reducible refine at_load_ (T := 87) ?_); refine at_wanted_ (by rfl) ?_; first | (refine wpList_loadg_mem (by go_simp) 87 _ rfl 0 _ _ _ hM rfl rfl _ Try.underlying87 rfl sz_Piece ?_) | (refine wpList_loadg_mem (by go_simp) 87 _ rfl 1 _ _ _ hM rfl rfl _ Try.underlying87 rfl sz_Piece ?_))
              | ((with_reducible refine at_store_ (T := 87) ?_); first | (refine wpList_store_mem rfl 87 _ _ rfl 0 _ _ _ _ hM rfl rfl rfl rfl sz_Piece rfl ?_; clear hM; intro W hM; simp only [zE] at hM) | (refine wpList_store_mem rfl 87 _ _ rfl 1 _ _ _ _ hM rfl rfl rfl rfl sz_Piece rfl ?_; clear hM; intro W hM; simp only [zF, zE] at hM))
              | ((with_reducible refine at_load_ ?_); refine at_wanted_ (by rfl) ?_; first | (refine lM 0 hM rfl rfl rfl (by first | rfl | assumption) ?_) | (refine lM 1 hM rfl rfl rfl (by first | rfl | assumption) ?_))
              | ((with_reducible refine at_store_ ?_); first | (refine sM 0 hM rfl rfl rfl ?_; clear hM; intro W hM; simp only [zF, zE] at hM) | (refine sM 1 hM rfl rfl rfl ?_; clear hM; intro W hM; simp only [zF, zE] at hM)))
            have hcz := hM.cells 0 rfl
            refine bodyPost_ret (v := .tuple #[.agg (cPiece (⟨fr, false, true, byteS ((q.l.drop i).take (j - i))⟩)).toArray, .bool true]) (by simp [results, Try.results62, go_sem, hcz, cPiece]) rfl ?_
            exact ⟨by rw [HP.out], hM.b⟩
          · obtain rfl : TO = L := by omega
            clear u4
            obtain rfl : TO = F := hTe
            have u4 : ((TO : Int) == TO) = true := by simp
            have u5 : decide (TO < TO) = false := by simp
            have hFB : FB = false := by rw [hfb]; rw [hcl, if_pos hlt, decide_eq_true (rfl : TO = TO), decide_eq_false (show ¬ TO < TO by omega)]; rfl
            obtain ⟨i, hi⟩ : ∃ i : Nat, fr - q.base = (i : Int) := ⟨(fr - q.base).toNat, by omega⟩
            obtain ⟨j, hj⟩ : ∃ j : Nat, TO - q.base = (j : Int) := ⟨(TO - q.base).toNat, by omega⟩
            obtain ⟨g2, off, cap, rfl, hW⟩ := hV.pos (by omega)
            have hcap := hW.le
            rw [if_pos hlt] at hbo
            have hbo2 : BO = (q.l.drop i).take (j - i) := by rw [hbo, show (fr - q.base).toNat = i by omega, show (TO - fr).toNat = j - i by omega]
            have HP := Lib.hid (show qPiece q fr lim mss = ⟨fr, false, false, byteS ((q.l.drop i).take (j - i))⟩ by rw [hp, hFB, hbo2])
            have hj2 : TO - q.base = (j : Int) := by omega
            have v1 : (i : Int) < (j : Int) := by omega
            have v2 : (j : Int) ≤ (cap : Int) := by omega
            have v3 : i ≤ j := by omega
            have v4 : j ≤ cap := by omega
            have v5 : i < cap := by omega
            have v9 : (cap = i) = False := eq_false (by omega)
            have wi : IntKind.i64.wrap (i : Int) = (i : Int) := by rw [IntKind.wrap_i64]; omega
            have wj : IntKind.i64.wrap (j : Int) = (j : Int) := by rw [IntKind.wrap_i64]; omega
            have hj3 : j ≤ q.l.length := by omega
            have c0 := hA.cell
            simp only [oqC] at c0
            have hlt0 := hA.lt
            have HWW := Lib.hid hW
            have HAH := Lib.hid hA
            clear hbo hbo2 hj hA hV hW his hfb hFB k6 k7 hp hfd hFq ok
            go_enter Try.func62, Try.ntmps62
            go_upto_region 11 with         (first
          | go_skip
          | (go_at_call 68; go_must (refine (HE.out _ hM.b).mono ?_; rintro e W ⟨rfl, hb⟩); replace hM := hM.kept hb; clear hb)
          | (go_at_call 83; go_must (refine (HF.out _ hM.b).mono ?_; rintro e W ⟨rfl, hb⟩); replace hM := hM.kept hb; clear hb)
          | ((with_reducible refine at_box_ ?_); refine wpList_box_mem rfl _ _ rfl _ rfl hM ?_; clear hM; intro gb W hM; first | (simp only [List.nil_append] at hM) | (simp only [List.cons_append, List.nil_append] at hM))
          | ((with_reducible refine at_alloc_ (T := 87) ?_); refine wpList_alloc_mem rfl 87 rfl _ zv_Piece _ rfl hM ?_; clear hM; intro gb W hM; first | (simp only [List.nil_append] at hM) | (simp only [List.cons_append, List.nil_append] at hM))
          | ((with_reducible refine at_load_ (T := 87) ?_); refine at_wanted_ (by rfl) ?_; first | (refine wpList_loadg_mem (by go_simp) 87 _ rfl 0 _ _ _ hM rfl rfl _ Try.underlying87 rfl sz_Piece ?_) | (refine wpList_loadg_mem (by go_simp) 87 _ rfl 1 _ _ _ hM rfl rfl _ Try.underlying87 rfl sz_Piece ?_))
          | ((with_reducible refine at_store_ (T := 87) ?_); first | (refine wpList_store_mem rfl 87 _ _ rfl 0 _ _ _ _ hM rfl rfl rfl rfl sz_Piece rfl ?_; clear hM; intro W hM; simp only [zE] at hM) | (refine wpList_store_mem rfl 87 _ _ rfl 1 _ _ _ _ hM rfl rfl rfl rfl sz_Piece rfl ?_; clear hM; intro W hM; simp only [zF, zE] at hM))
          | ((with_reducible refine at_load_ ?_); refine at_wanted_ (by rfl) ?_; first | (refine lM 0 hM rfl rfl rfl (by first | rfl | assumption) ?_) | (refine lM 1 hM rfl rfl rfl (by first | rfl | assumption) ?_))
          | ((with_reducible refine at_store_ ?_); first | (refine sM 0 hM rfl rfl rfl ?_; clear hM; intro W hM; simp only [zF, zE] at hM) | (refine sM 1 hM rfl rfl rfl ?_; clear hM; intro W hM; simp only [zF, zE] at hM)))
            have cW := (HAH.out.kept hM.b).cell
            have lW := (HAH.out.kept hM.b).lt
            simp only [oqC] at cW
            have hcv := conv_sub W.drew g2 off cap _ i j q.l ((HWW.out.move (Nat.lt_of_lt_of_le HWW.out.lt hM.b.size) (hM.b.block g2 HWW.out.lt)) : WinAt W.drew 0 1 g2 off cap _ _) v3 hj3
            change ∀ c : Nat, (convert 104 9 (.slice (some ⟨g2, off + i, none⟩) (j - i) c)).run Try.prog { heap := W.heap, tape := W.tape, drawn := W.drawn + 1, os := W.os, output := W.output } = .ok (.string (byteS ((q.l.drop i).take (j - i)))) { heap := W.heap, tape := W.tape, drawn := W.drawn + 1, os := W.os, output := W.output } at hcv
            have v6 : (j : Int) ≤ (q.l.length : Int) := by omega
            have v7 : (0 : Int) ≤ (i : Int) := by omega
            have v8 : i < j := by omega
            refine wp_region_still_tail 19 (by kernel_rfl) (by kernel_rfl) ?_
            simp only [List.take_succ_cons, List.take_zero, List.drop_succ_cons, List.drop_zero]
            repeat still_step
            refine wpStill_conv (by rfl) _ _ _ rfl _ _ rfl (hcv _) ?_
            simp only [Act.put, zD, zE, zF]
            repeat still_step
            refine wpStill_nil ?_
            change wpList _ _ _ _ _ W.drew
            clear hcv cW lW c0 hlt0
            replace hM := hM.kept (Below.refl W.heap.size W).drew
            generalize W.drew = W9 at hM ⊢
            go_upto_region 12 with         (first
          | go_skip
          | ((with_reducible refine at_box_ ?_); refine wpList_box_mem rfl _ _ rfl _ rfl hM ?_; clear hM; intro gb W hM; first | (simp only [List.nil_append] at hM) | (simp only [List.cons_append, List.nil_append] at hM))
          | ((with_reducible refine at_alloc_ (T := 87) ?_); refine wpList_alloc_mem rfl 87 rfl _ zv_Piece _ rfl hM ?_; clear hM; intro gb W hM; first | (simp only [List.nil_append] at hM) | (simp only [List.cons_append, List.nil_append] at hM))
          | ((with_reducible refine at_load_ (T := 87) ?_); refine at_wanted_ (by rfl) ?_; first | (refine wpList_loadg_mem (by go_simp) 87 _ rfl 0 _ _ _ hM rfl rfl _ Try.underlying87 rfl sz_Piece ?_) | (refine wpList_loadg_mem (by go_simp) 87 _ rfl 1 _ _ _ hM rfl rfl _ Try.underlying87 rfl sz_Piece ?_))
          | ((with_reducible refine at_store_ (T := 87) ?_); first | (refine wpList_store_mem rfl 87 _ _ rfl 0 _ _ _ _ hM rfl rfl rfl rfl sz_Piece rfl ?_; clear hM; intro W hM; simp only [zE] at hM) | (refine wpList_store_mem rfl 87 _ _ rfl 1 _ _ _ _ hM rfl rfl rfl rfl sz_Piece rfl ?_; clear hM; intro W hM; simp only [zF, zE] at hM))
          | ((with_reducible refine at_load_ ?_); refine at_wanted_ (by rfl) ?_; first | (refine lM 0 hM rfl rfl rfl (by first | rfl | assumption) ?_) | (refine lM 1 hM rfl rfl rfl (by first | rfl | assumption) ?_))
          | ((with_reducible refine at_store_ ?_); first | (refine sM 0 hM rfl rfl rfl ?_; clear hM; intro W hM; simp only [zF, zE] at hM) | (refine sM 1 hM rfl rfl rfl ?_; clear hM; intro W hM; simp only [zF, zE] at hM)))
            have cW := (HAH.out.kept hM.b).cell
            have lW := (HAH.out.kept hM.b).lt
            simp only [oqC] at cW
            go_wp2_with (first
              | go_skip
              | (go_at_call 68; go_must (refine (HE.out _ hM.b).mono ?_; rintro e W ⟨rfl, hb⟩); replace hM := hM.kept hb; clear hb)
              | (go_at_call 83; go_must (refine (HF.out _ hM.b).mono ?_; rintro e W ⟨rfl, hb⟩); replace hM := hM.kept hb; clear hb)
              | ((with_reducible refine at_box_ ?_); refine wpList_box_mem rfl _ _ rfl _ rfl hM ?_; clear hM; intro gb W hM; first | (simp only [List.nil_append] at hM) | (simp only [List.cons_append, List.nil_append] at hM))
              | ((with_reducible refine at_alloc_ (T := 87) ?_); refine wpList_alloc_mem rfl 87 rfl _ zv_Piece _ rfl hM ?_; clear hM; intro gb W hM; first | (simp only [List.nil_append] at hM) | (simp only [List.cons_append, List.nil_append] at hM))
              | ((with_reducible refine at_load_ (T := 87) ?_); refine at_wanted_ (by rfl) ?_; first | (refine wpList_loadg_mem (by go_simp) 87 _ rfl 0 _ _ _ hM rfl rfl _ Try.underlying87 rfl sz_Piece ?_) | (refine wpList_loadg_mem (by go_simp) 87 _ rfl 1 _ _ _ hM rfl rfl _ Try.underlying87 rfl sz_Piece ?_))
              | ((with_reducible refine at_store_ (T := 87) ?_); first | (refine wpList_store_mem rfl 87 _ _ rfl 0 _ _ _ _ hM rfl rfl rfl rfl sz_Piece rfl ?_; clear hM; intro W hM; simp only [zE] at hM) | (refine wpList_store_mem rfl 87 _ _ rfl 1 _ _ _ _ hM rfl rfl rfl rfl sz_Piece rfl ?_; clear hM; intro W hM; simp only [zF, zE] at hM))
              | ((with_reducible refine at_load_ ?_); refine at_wanted_ (by rfl) ?_; first | (refine lM 0 hM rfl rfl rfl (by first | rfl | assumption) ?_) | (refine lM 1 hM rfl rfl rfl (by first | rfl | assumption) ?_))
              | ((with_reducible refine at_store_ ?_); first | (refine sM 0 hM rfl rfl rfl ?_; clear hM; intro W hM; simp only [zF, zE] at hM) | (refine sM 1 hM rfl rfl rfl ?_; clear hM; intro W hM; simp only [zF, zE] at hM)))
            have hcz := hM.cells 0 rfl
            refine bodyPost_ret (v := .tuple #[.agg (cPiece (⟨fr, false, false, byteS ((q.l.drop i).take (j - i))⟩)).toArray, .bool true]) (by simp [results, Try.results62, go_sem, hcz, cPiece]) rfl ?_
            exact ⟨by rw [HP.out], hM.b⟩
        · have u4 : ((TO : Int) == F) = false := by simpa using hTe
          have hFB : FB = false := by rw [hfb]; rw [hcl, if_pos hlt, decide_eq_false hTe]; rfl
          obtain ⟨i, hi⟩ : ∃ i : Nat, fr - q.base = (i : Int) := ⟨(fr - q.base).toNat, by omega⟩
          obtain ⟨j, hj⟩ : ∃ j : Nat, TO - q.base = (j : Int) := ⟨(TO - q.base).toNat, by omega⟩
          obtain ⟨g2, off, cap, rfl, hW⟩ := hV.pos (by omega)
          have hcap := hW.le
          rw [if_pos hlt] at hbo
          have hbo2 : BO = (q.l.drop i).take (j - i) := by rw [hbo, show (fr - q.base).toNat = i by omega, show (TO - fr).toNat = j - i by omega]
          have HP := Lib.hid (show qPiece q fr lim mss = ⟨fr, false, false, byteS ((q.l.drop i).take (j - i))⟩ by rw [hp, hFB, hbo2])
          have hj2 : TO - q.base = (j : Int) := by omega
          have v1 : (i : Int) < (j : Int) := by omega
          have v2 : (j : Int) ≤ (cap : Int) := by omega
          have v3 : i ≤ j := by omega
          have v4 : j ≤ cap := by omega
          have v5 : i < cap := by omega
          have v9 : (cap = i) = False := eq_false (by omega)
          have wi : IntKind.i64.wrap (i : Int) = (i : Int) := by rw [IntKind.wrap_i64]; omega
          have wj : IntKind.i64.wrap (j : Int) = (j : Int) := by rw [IntKind.wrap_i64]; omega
          clear hTe
          have hj3 : j ≤ q.l.length := by omega
          have c0 := hA.cell
          simp only [oqC] at c0
          have hlt0 := hA.lt
          have HWW := Lib.hid hW
          have HAH := Lib.hid hA
          clear hbo hbo2 hj hA hV hW his hfb hFB k6 k7 hp hfd hFq ok
          go_enter Try.func62, Try.ntmps62
          go_upto_region 11 with         (first
          | go_skip
          | (go_at_call 68; go_must (refine (HE.out _ hM.b).mono ?_; rintro e W ⟨rfl, hb⟩); replace hM := hM.kept hb; clear hb)
          | (go_at_call 83; go_must (refine (HF.out _ hM.b).mono ?_; rintro e W ⟨rfl, hb⟩); replace hM := hM.kept hb; clear hb)
          | ((with_reducible refine at_box_ ?_); refine wpList_box_mem rfl _ _ rfl _ rfl hM ?_; clear hM; intro gb W hM; first | (simp only [List.nil_append] at hM) | (simp only [List.cons_append, List.nil_append] at hM))
          | ((with_reducible refine at_alloc_ (T := 87) ?_); refine wpList_alloc_mem rfl 87 rfl _ zv_Piece _ rfl hM ?_; clear hM; intro gb W hM; first | (simp only [List.nil_append] at hM) | (simp only [List.cons_append, List.nil_append] at hM))
          | ((with_reducible refine at_load_ (T := 87) ?_); refine at_wanted_ (by rfl) ?_; first | (refine wpList_loadg_mem (by go_simp) 87 _ rfl 0 _ _ _ hM rfl rfl _ Try.underlying87 rfl sz_Piece ?_) | (refine wpList_loadg_mem (by go_simp) 87 _ rfl 1 _ _ _ hM rfl rfl _ Try.underlying87 rfl sz_Piece ?_))
          | ((with_reducible refine at_store_ (T := 87) ?_); first | (refine wpList_store_mem rfl 87 _ _ rfl 0 _ _ _ _ hM rfl rfl rfl rfl sz_Piece rfl ?_; clear hM; intro W hM; simp only [zE] at hM) | (refine wpList_store_mem rfl 87 _ _ rfl 1 _ _ _ _ hM rfl rfl rfl rfl sz_Piece rfl ?_; clear hM; intro W hM; simp only [zF, zE] at hM))
          | ((with_reducible refine at_load_ ?_); refine at_wanted_ (by rfl) ?_; first | (refine lM 0 hM rfl rfl rfl (by first | rfl | assumption) ?_) | (refine lM 1 hM rfl rfl rfl (by first | rfl | assumption) ?_))
          | ((with_reducible refine at_store_ ?_); first | (refine sM 0 hM rfl rfl rfl ?_; clear hM; intro W hM; simp only [zF, zE] at hM) | (refine sM 1 hM rfl rfl rfl ?_; clear hM; intro W hM; simp only [zF, zE] at hM)))
          have cW := (HAH.out.kept hM.b).cell
          have lW := (HAH.out.kept hM.b).lt
          simp only [oqC] at cW
          have hcv := conv_sub W.drew g2 off cap _ i j q.l ((HWW.out.move (Nat.lt_of_lt_of_le HWW.out.lt hM.b.size) (hM.b.block g2 HWW.out.lt)) : WinAt W.drew 0 1 g2 off cap _ _) v3 hj3
          change ∀ c : Nat, (convert 104 9 (.slice (some ⟨g2, off + i, none⟩) (j - i) c)).run Try.prog { heap := W.heap, tape := W.tape, drawn := W.drawn + 1, os := W.os, output := W.output } = .ok (.string (byteS ((q.l.drop i).take (j - i)))) { heap := W.heap, tape := W.tape, drawn := W.drawn + 1, os := W.os, output := W.output } at hcv
          have v6 : (j : Int) ≤ (q.l.length : Int) := by omega
          have v7 : (0 : Int) ≤ (i : Int) := by omega
          have v8 : i < j := by omega
          refine wp_region_still_tail 19 (by kernel_rfl) (by kernel_rfl) ?_
          simp only [List.take_succ_cons, List.take_zero, List.drop_succ_cons, List.drop_zero]
          repeat still_step
          refine wpStill_conv (by rfl) _ _ _ rfl _ _ rfl (hcv _) ?_
          simp only [Act.put, zD, zE, zF]
          repeat still_step
          refine wpStill_nil ?_
          change wpList _ _ _ _ _ W.drew
          clear hcv cW lW c0 hlt0
          replace hM := hM.kept (Below.refl W.heap.size W).drew
          generalize W.drew = W9 at hM ⊢
          go_upto_region 12 with         (first
          | go_skip
          | ((with_reducible refine at_box_ ?_); refine wpList_box_mem rfl _ _ rfl _ rfl hM ?_; clear hM; intro gb W hM; first | (simp only [List.nil_append] at hM) | (simp only [List.cons_append, List.nil_append] at hM))
          | ((with_reducible refine at_alloc_ (T := 87) ?_); refine wpList_alloc_mem rfl 87 rfl _ zv_Piece _ rfl hM ?_; clear hM; intro gb W hM; first | (simp only [List.nil_append] at hM) | (simp only [List.cons_append, List.nil_append] at hM))
          | ((with_reducible refine at_load_ (T := 87) ?_); refine at_wanted_ (by rfl) ?_; first | (refine wpList_loadg_mem (by go_simp) 87 _ rfl 0 _ _ _ hM rfl rfl _ Try.underlying87 rfl sz_Piece ?_) | (refine wpList_loadg_mem (by go_simp) 87 _ rfl 1 _ _ _ hM rfl rfl _ Try.underlying87 rfl sz_Piece ?_))
          | ((with_reducible refine at_store_ (T := 87) ?_); first | (refine wpList_store_mem rfl 87 _ _ rfl 0 _ _ _ _ hM rfl rfl rfl rfl sz_Piece rfl ?_; clear hM; intro W hM; simp only [zE] at hM) | (refine wpList_store_mem rfl 87 _ _ rfl 1 _ _ _ _ hM rfl rfl rfl rfl sz_Piece rfl ?_; clear hM; intro W hM; simp only [zF, zE] at hM))
          | ((with_reducible refine at_load_ ?_); refine at_wanted_ (by rfl) ?_; first | (refine lM 0 hM rfl rfl rfl (by first | rfl | assumption) ?_) | (refine lM 1 hM rfl rfl rfl (by first | rfl | assumption) ?_))
          | ((with_reducible refine at_store_ ?_); first | (refine sM 0 hM rfl rfl rfl ?_; clear hM; intro W hM; simp only [zF, zE] at hM) | (refine sM 1 hM rfl rfl rfl ?_; clear hM; intro W hM; simp only [zF, zE] at hM)))
          have cW := (HAH.out.kept hM.b).cell
          have lW := (HAH.out.kept hM.b).lt
          simp only [oqC] at cW
          go_wp2_with (first
            | go_skip
            | (go_at_call 68; go_must (refine (HE.out _ hM.b).mono ?_; rintro e W ⟨rfl, hb⟩); replace hM := hM.kept hb; clear hb)
            | (go_at_call 83; go_must (refine (HF.out _ hM.b).mono ?_; rintro e W ⟨rfl, hb⟩); replace hM := hM.kept hb; clear hb)
            | ((with_reducible refine at_box_ ?_); refine wpList_box_mem rfl _ _ rfl _ rfl hM ?_; clear hM; intro gb W hM; first | (simp only [List.nil_append] at hM) | (simp only [List.cons_append, List.nil_append] at hM))
            | ((with_reducible refine at_alloc_ (T := 87) ?_); refine wpList_alloc_mem rfl 87 rfl _ zv_Piece _ rfl hM ?_; clear hM; intro gb W hM; first | (simp only [List.nil_append] at hM) | (simp only [List.cons_append, List.nil_append] at hM))
            | ((with_reducible refine at_load_ (T := 87) ?_); refine at_wanted_ (by rfl) ?_; first | (refine wpList_loadg_mem (by go_simp) 87 _ rfl 0 _ _ _ hM rfl rfl _ Try.underlying87 rfl sz_Piece ?_) | (refine wpList_loadg_mem (by go_simp) 87 _ rfl 1 _ _ _ hM rfl rfl _ Try.underlying87 rfl sz_Piece ?_))
            | ((with_reducible refine at_store_ (T := 87) ?_); first | (refine wpList_store_mem rfl 87 _ _ rfl 0 _ _ _ _ hM rfl rfl rfl rfl sz_Piece rfl ?_; clear hM; intro W hM; simp only [zE] at hM) | (refine wpList_store_mem rfl 87 _ _ rfl 1 _ _ _ _ hM rfl rfl rfl rfl sz_Piece rfl ?_; clear hM; intro W hM; simp only [zF, zE] at hM))
            | ((with_reducible refine at_load_ ?_); refine at_wanted_ (by rfl) ?_; first | (refine lM 0 hM rfl rfl rfl (by first | rfl | assumption) ?_) | (refine lM 1 hM rfl rfl rfl (by first | rfl | assumption) ?_))
            | ((with_reducible refine at_store_ ?_); first | (refine sM 0 hM rfl rfl rfl ?_; clear hM; intro W hM; simp only [zF, zE] at hM) | (refine sM 1 hM rfl rfl rfl ?_; clear hM; intro W hM; simp only [zF, zE] at hM)))
          have hcz := hM.cells 0 rfl
          refine bodyPost_ret (v := .tuple #[.agg (cPiece (⟨fr, false, false, byteS ((q.l.drop i).take (j - i))⟩)).toArray, .bool true]) (by simp [results, Try.results62, go_sem, hcz, cPiece]) rfl ?_
          exact ⟨by rw [HP.out], hM.b⟩
    · have u2 : decide (fr < TO) = false := by simpa using hlt
      have hk := k7.resolve_left hlt
      obtain ⟨hcF, hFB⟩ := hk
      subst hcF
      have hFB2 := hFB
      rw [hfb, if_neg hlt] at hFB2
      simp only [Bool.and_eq_true, decide_eq_true_eq] at hFB2
      obtain ⟨hcl, _, hFL⟩ := hFB2
      have u4 : ((fr : Int) == fr) = true := by simp
      have u5 : decide (fr < L) = true := by simpa using hFL
      have u6 : (if fr < TO then TO else fr) = fr := if_neg hlt
      rw [if_neg hlt] at hbo
      have HP := Lib.hid (show qPiece q fr lim mss = ⟨fr, false, true, ⟨#[]⟩⟩ by rw [hp, hFB, hbo]; rfl)
      have HAH := Lib.hid hA
      clear hbo hA hV his hfb hFB k6 k7 hp hfd hFq ok
      go_enter Try.func62, Try.ntmps62
      go_upto_region 12 with         (first
          | go_skip
          | (go_at_call 68; go_must (refine (HE.out _ hM.b).mono ?_; rintro e W ⟨rfl, hb⟩); replace hM := hM.kept hb; clear hb)
          | (go_at_call 83; go_must (refine (HF.out _ hM.b).mono ?_; rintro e W ⟨rfl, hb⟩); replace hM := hM.kept hb; clear hb)
          | ((with_reducible refine at_box_ ?_); refine wpList_box_mem rfl _ _ rfl _ rfl hM ?_; clear hM; intro gb W hM; first | (simp only [List.nil_append] at hM) | (simp only [List.cons_append, List.nil_append] at hM))
          | ((with_reducible refine at_alloc_ (T := 87) ?_); refine wpList_alloc_mem rfl 87 rfl _ zv_Piece _ rfl hM ?_; clear hM; intro gb W hM; first | (simp only [List.nil_append] at hM) | (simp only [List.cons_append, List.nil_append] at hM))
          | ((with_reducible refine at_load_ (T := 87) ?_); refine at_wanted_ (by rfl) ?_; first | (refine wpList_loadg_mem (by go_simp) 87 _ rfl 0 _ _ _ hM rfl rfl _ Try.underlying87 rfl sz_Piece ?_) | (refine wpList_loadg_mem (by go_simp) 87 _ rfl 1 _ _ _ hM rfl rfl _ Try.underlying87 rfl sz_Piece ?_))
          | ((with_reducible refine at_store_ (T := 87) ?_); first | (refine wpList_store_mem rfl 87 _ _ rfl 0 _ _ _ _ hM rfl rfl rfl rfl sz_Piece rfl ?_; clear hM; intro W hM; simp only [zE] at hM) | (refine wpList_store_mem rfl 87 _ _ rfl 1 _ _ _ _ hM rfl rfl rfl rfl sz_Piece rfl ?_; clear hM; intro W hM; simp only [zF, zE] at hM))
          | ((with_reducible refine at_load_ ?_); refine at_wanted_ (by rfl) ?_; first | (refine lM 0 hM rfl rfl rfl (by first | rfl | assumption) ?_) | (refine lM 1 hM rfl rfl rfl (by first | rfl | assumption) ?_))
          | ((with_reducible refine at_store_ ?_); first | (refine sM 0 hM rfl rfl rfl ?_; clear hM; intro W hM; simp only [zF, zE] at hM) | (refine sM 1 hM rfl rfl rfl ?_; clear hM; intro W hM; simp only [zF, zE] at hM)))
      have cW := (HAH.out.kept hM.b).cell
      have lW := (HAH.out.kept hM.b).lt
      simp only [oqC] at cW
      go_wp2_with (first
        | go_skip
        | (go_at_call 68; go_must (refine (HE.out _ hM.b).mono ?_; rintro e W ⟨rfl, hb⟩); replace hM := hM.kept hb; clear hb)
        | (go_at_call 83; go_must (refine (HF.out _ hM.b).mono ?_; rintro e W ⟨rfl, hb⟩); replace hM := hM.kept hb; clear hb)
        | ((with_reducible refine at_box_ ?_); refine wpList_box_mem rfl _ _ rfl _ rfl hM ?_; clear hM; intro gb W hM; first | (simp only [List.nil_append] at hM) | (simp only [List.cons_append, List.nil_append] at hM))
        | ((with_reducible refine at_alloc_ (T := 87) ?_); refine wpList_alloc_mem rfl 87 rfl _ zv_Piece _ rfl hM ?_; clear hM; intro gb W hM; first | (simp only [List.nil_append] at hM) | (simp only [List.cons_append, List.nil_append] at hM))
        | ((with_reducible refine at_load_ (T := 87) ?_); refine at_wanted_ (by rfl) ?_; first | (refine wpList_loadg_mem (by go_simp) 87 _ rfl 0 _ _ _ hM rfl rfl _ Try.underlying87 rfl sz_Piece ?_) | (refine wpList_loadg_mem (by go_simp) 87 _ rfl 1 _ _ _ hM rfl rfl _ Try.underlying87 rfl sz_Piece ?_))
        | ((with_reducible refine at_store_ (T := 87) ?_); first | (refine wpList_store_mem rfl 87 _ _ rfl 0 _ _ _ _ hM rfl rfl rfl rfl sz_Piece rfl ?_; clear hM; intro W hM; simp only [zE] at hM) | (refine wpList_store_mem rfl 87 _ _ rfl 1 _ _ _ _ hM rfl rfl rfl rfl sz_Piece rfl ?_; clear hM; intro W hM; simp only [zF, zE] at hM))
        | ((with_reducible refine at_load_ ?_); refine at_wanted_ (by rfl) ?_; first | (refine lM 0 hM rfl rfl rfl (by first | rfl | assumption) ?_) | (refine lM 1 hM rfl rfl rfl (by first | rfl | assumption) ?_))
        | ((with_reducible refine at_store_ ?_); first | (refine sM 0 hM rfl rfl rfl ?_; clear hM; intro W hM; simp only [zF, zE] at hM) | (refine sM 1 hM rfl rfl rfl ?_; clear hM; intro W hM; simp only [zF, zE] at hM)))
      have hcz := hM.cells 0 rfl
      refine bodyPost_ret (v := .tuple #[.agg (cPiece (⟨fr, false, true, ⟨#[]⟩⟩)).toArray, .bool true]) (by simp [results, Try.results62, go_sem, hcz, cPiece]) rfl ?_
      exact ⟨by rw [HP.out], hM.b⟩
end Go.Proofs.Ytfpifahkpkjfgaa
