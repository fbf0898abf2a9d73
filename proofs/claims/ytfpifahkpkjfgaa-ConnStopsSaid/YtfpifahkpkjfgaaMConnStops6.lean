/- What ConnStops needs, a part: OutqI. -/
import Derived.StillTailTactics
import Derived.Test.YtfpifahkpkjfgaaMConnStops4
namespace Go.Proofs.Ytfpifahkpkjfgaa
open Go.RowKit Go.Lib
set_option linter.unusedVariables false
theorem wpStill_conv {P : Program} {ops : Array Oper} {w : World} {K : Act → Prop} {a : Act} {o : Oper} {rest : List Oper} (hw : Region.wanted o (yielded ops a.tmps) = true) (S T : TypeId) (x : Operand) (ho : o.op = .convert S T x) (v r : Value) (hx : a.eval x = v)
  (hr : (convert S T v).run P w = .ok r w) (h : wpStill P ops w K rest (a.put o.dst r)) : wpStill P ops w K (o :: rest) a := by
 show (if Region.wanted o (yielded ops a.tmps) then o.still P a w (wpStill P ops w K rest) else wpStill P ops w K rest (a.put o.dst undef))
 rw [if_pos hw]
 unfold Oper.still execOp
 simp only [ho, hx, hr, Sem.run_bind, Sem.run_pure, Result.andThen_ok, Oper.stillUpon]
 exact ⟨trivial, h⟩
theorem conv_sub (w : World) (g off cap n i j : Nat) (l : List Int) (h : WinAt w 0 1 g off cap n (l.map b8)) (hij : i ≤ j) (hj : j ≤ l.length) (c : Nat) :
  (convert 104 9 (.slice (some ⟨g, off + i, none⟩) (j - i) c)).run Try.prog w = .ok (.string (byteS ((l.drop i).take (j - i)))) w := by
 have hlen : (byteL ((l.drop i).take (j - i))).length = j - i := by rw [byteL_len, List.length_take, List.length_drop]; omega
 have hback := run_convert_bytes_back (P := Try.prog) w 104 9 5 ⟨g, off + i, none⟩ c (byteL ((l.drop i).take (j - i))) Try.underlying104 Try.underlying5 Try.underlying9 (fun k hk => by
  rw [Addr.add_mid]
  have hk2 : k < j - i := by omega
  have h1 := byteL_at ((l.drop i).take (j - i)) k hk
  have h2 : (l.map b8)[i + k]? = some (.int .u8 ((byteL ((l.drop i).take (j - i)))[k].toNat : Int)) := by
   rw [← h1, List.getElem?_map, List.getElem?_map, List.getElem?_take, if_pos hk2, List.getElem?_drop]
  rw [Nat.add_assoc]
  exact h.here (i + k) _ h2)
 rw [hlen] at hback
 exact hback
set_option maxRecDepth 100000 in
set_option maxHeartbeats 8000000 in
theorem piece_any (g : Nat) (q : OQ) (v : Value) (lim mss : Int) (w : World) (hA : OAt w g q v) (hV : OwnB w 0 v q.l) (ok : OqOk q) (hb2 : q.base ≤ 4611686018427387904)
    (hl : -9223372036854775808 ≤ lim ∧ lim ≤ 9223372036854775807) (hm : -9223372036854775808 ≤ mss ∧ mss ≤ 9223372036854775807) :
    Calls Try.prog 62 #[.pointer (some ⟨g, 0, none⟩), .int .i64 q.cur, .int .i64 lim, .int .i64 mss] w fun e w' => e = .returned (.tuple #[.agg (cPiece (qPiece q q.cur lim mss)).toArray, .bool (oIs q q.cur lim mss)]) ∧ Below w.heap.size w w' := by
  obtain ⟨hl1, hl2⟩ := hl
  obtain ⟨hm1, hm2⟩ := hm
  have hlen := ok.len
  have hba := ok.ba
  have hfd : oFin q = q.base + q.l.length := rfl
  have hen := qEnd_bd (q := q)
  have hc0 : 0 ≤ q.cur := by have := ok.uc; have := ok.cs; omega
  have hc1 : q.cur ≤ qEnd q := by have := ok.se; have := ok.ee; omega
  have hlm : (if qEnd q < lim then qEnd q else lim) = oLim q lim := by unfold oLim; split <;> split <;> omega
  have hll := oLim_le (q := q) lim
  have HE := Lib.hid (fun W (h : Below w.heap.size w W) => End_any g q v W (hA.kept h) (hV.kept h) hlen hba hb2)
  have HF := Lib.hid (fun W (h : Below w.heap.size w W) => fin_any g q v W (hA.kept h) (hV.kept h) hlen hba hb2)
  have his : oIs q q.cur lim mss = (decide (q.cur < oLim q lim) && decide (1 ≤ mss)) := rfl
  have hM := Mem.nil w
  have HOK := Lib.hid ok
  by_cases h1 : oIs q q.cur lim mss = true
  rotate_left
  · have h1' : oIs q q.cur lim mss = false := by simpa using h1
    have hp : qPiece q q.cur lim mss = ⟨0, false, false, ⟨#[]⟩⟩ := by unfold qPiece; rw [if_neg h1]
    rw [hp, h1']
    rw [h1'] at his
    have HIS := Lib.hid his
    generalize oLim q lim = L at *
    generalize qEnd q = En at *
    clear hp h1 h1' his hc1 hfd ok
    by_cases h2 : q.cur < L
    · have h3 : mss < 1 := by
        by_cases h3 : mss < 1
        · exact h3
        · have := HIS.out; simp at this; omega
      have t1 : decide (L ≤ q.cur) = false := by simp; omega
      have t2 : decide (mss < 1) = true := by simp; omega
      go_enter Try.func62, Try.ntmps62
      go_wp2_with (first
        | go_skip
        | (go_at_call 68; go_must (refine (HE.out _ hM.b).mono ?_; rintro e W ⟨rfl, hb⟩); replace hM := hM.kept hb; clear hb)
        | ((with_reducible refine at_box_ ?_); refine wpList_box_mem rfl _ _ rfl _ rfl hM ?_; clear hM; intro gb W hM; first | (simp only [List.nil_append] at hM) | (simp only [List.cons_append, List.nil_append] at hM))
        | ((with_reducible refine at_alloc_ (T := 87) ?_); refine wpList_alloc_mem rfl 87 rfl _ zv_Piece _ rfl hM ?_; clear hM; intro gb W hM; first | (simp only [List.nil_append] at hM) | (simp only [List.cons_append, List.nil_append] at hM))
        | ((with_reducible refine at_load_ (T := 87) ?_); refine at_wanted_ (by rfl) ?_; first | (refine wpList_loadg_mem (by go_simp) 87 _ rfl 0 _ _ _ hM rfl rfl _ Try.underlying87 rfl sz_Piece ?_) | (refine wpList_loadg_mem (by go_simp) 87 _ rfl 1 _ _ _ hM rfl rfl _ Try.underlying87 rfl sz_Piece ?_))
        | ((with_reducible refine at_store_ (T := 87) ?_); first | (refine wpList_store_mem rfl 87 _ _ rfl 0 _ _ _ _ hM rfl rfl rfl rfl sz_Piece rfl ?_; clear hM; intro W hM; simp only [zE] at hM) | (refine wpList_store_mem rfl 87 _ _ rfl 1 _ _ _ _ hM rfl rfl rfl rfl sz_Piece rfl ?_; clear hM; intro W hM; simp only [zF, zE] at hM))
        | ((with_reducible refine at_load_ ?_); refine at_wanted_ (by rfl) ?_; first | (refine lM 0 hM rfl rfl rfl (by first | rfl | assumption) ?_) | (refine lM 1 hM rfl rfl rfl (by first | rfl | assumption) ?_))
        | ((with_reducible refine at_store_ ?_); first | (refine sM 0 hM rfl rfl rfl ?_; clear hM; intro W hM; simp only [zF, zE] at hM) | (refine sM 1 hM rfl rfl rfl ?_; clear hM; intro W hM; simp only [zF, zE] at hM)))
      have hcz := hM.cells 0 rfl
      refine bodyPost_ret (v := .tuple #[.agg (cPiece (⟨0, false, false, ⟨#[]⟩⟩)).toArray, .bool false]) (by simp [results, Try.results62, go_sem, hcz, cPiece]) rfl ?_
      exact ⟨rfl, hM.b⟩
    · have t1 : decide (L ≤ q.cur) = true := by simp; omega
      go_enter Try.func62, Try.ntmps62
      go_wp2_with (first
        | go_skip
        | (go_at_call 68; go_must (refine (HE.out _ hM.b).mono ?_; rintro e W ⟨rfl, hb⟩); replace hM := hM.kept hb; clear hb)
        | ((with_reducible refine at_box_ ?_); refine wpList_box_mem rfl _ _ rfl _ rfl hM ?_; clear hM; intro gb W hM; first | (simp only [List.nil_append] at hM) | (simp only [List.cons_append, List.nil_append] at hM))
        | ((with_reducible refine at_alloc_ (T := 87) ?_); refine wpList_alloc_mem rfl 87 rfl _ zv_Piece _ rfl hM ?_; clear hM; intro gb W hM; first | (simp only [List.nil_append] at hM) | (simp only [List.cons_append, List.nil_append] at hM))
        | ((with_reducible refine at_load_ (T := 87) ?_); refine at_wanted_ (by rfl) ?_; first | (refine wpList_loadg_mem (by go_simp) 87 _ rfl 0 _ _ _ hM rfl rfl _ Try.underlying87 rfl sz_Piece ?_) | (refine wpList_loadg_mem (by go_simp) 87 _ rfl 1 _ _ _ hM rfl rfl _ Try.underlying87 rfl sz_Piece ?_))
        | ((with_reducible refine at_store_ (T := 87) ?_); first | (refine wpList_store_mem rfl 87 _ _ rfl 0 _ _ _ _ hM rfl rfl rfl rfl sz_Piece rfl ?_; clear hM; intro W hM; simp only [zE] at hM) | (refine wpList_store_mem rfl 87 _ _ rfl 1 _ _ _ _ hM rfl rfl rfl rfl sz_Piece rfl ?_; clear hM; intro W hM; simp only [zF, zE] at hM))
        | ((with_reducible refine at_load_ ?_); refine at_wanted_ (by rfl) ?_; first | (refine lM 0 hM rfl rfl rfl (by first | rfl | assumption) ?_) | (refine lM 1 hM rfl rfl rfl (by first | rfl | assumption) ?_))
        | ((with_reducible refine at_store_ ?_); first | (refine sM 0 hM rfl rfl rfl ?_; clear hM; intro W hM; simp only [zF, zE] at hM) | (refine sM 1 hM rfl rfl rfl ?_; clear hM; intro W hM; simp only [zF, zE] at hM)))
      have hcz := hM.cells 0 rfl
      refine bodyPost_ret (v := .tuple #[.agg (cPiece (⟨0, false, false, ⟨#[]⟩⟩)).toArray, .bool false]) (by simp [results, Try.results62, go_sem, hcz, cPiece]) rfl ?_
      exact ⟨rfl, hM.b⟩
  have h2 : q.cur < oLim q lim ∧ 1 ≤ mss := by rw [his] at h1; simpa using h1
  obtain ⟨h2, h3⟩ := h2
  have t1 : decide (oLim q lim ≤ q.cur) = false := by simp; omega
  have t2 : decide (mss < 1) = false := by simp; omega
  rw [h1]
  by_cases h0 : q.cur = 0
  · have hp : qPiece q q.cur lim mss = ⟨0, true, false, ⟨#[]⟩⟩ := by unfold qPiece; rw [if_pos h1, if_pos h0]
    have t3 : ((q.cur : Int) == 0) = true := by simpa using h0
    rw [hp]
    generalize oLim q lim = L at *
    generalize qEnd q = En at *
    clear hp h1 his hc1 hfd ok h0
    go_enter Try.func62, Try.ntmps62
    go_wp2_with (first
      | go_skip
      | (go_at_call 68; go_must (refine (HE.out _ hM.b).mono ?_; rintro e W ⟨rfl, hb⟩); replace hM := hM.kept hb; clear hb)
      | ((with_reducible refine at_box_ ?_); refine wpList_box_mem rfl _ _ rfl _ rfl hM ?_; clear hM; intro gb W hM; first | (simp only [List.nil_append] at hM) | (simp only [List.cons_append, List.nil_append] at hM))
      | ((with_reducible refine at_alloc_ (T := 87) ?_); refine wpList_alloc_mem rfl 87 rfl _ zv_Piece _ rfl hM ?_; clear hM; intro gb W hM; first | (simp only [List.nil_append] at hM) | (simp only [List.cons_append, List.nil_append] at hM))
      | ((with_reducible refine at_load_ (T := 87) ?_); refine at_wanted_ (by rfl) ?_; first | (refine wpList_loadg_mem (by go_simp) 87 _ rfl 0 _ _ _ hM rfl rfl _ Try.underlying87 rfl sz_Piece ?_) | (refine wpList_loadg_mem (by go_simp) 87 _ rfl 1 _ _ _ hM rfl rfl _ Try.underlying87 rfl sz_Piece ?_))
      | ((with_reducible refine at_store_ (T := 87) ?_); first | (refine wpList_store_mem rfl 87 _ _ rfl 0 _ _ _ _ hM rfl rfl rfl rfl sz_Piece rfl ?_; clear hM; intro W hM; simp only [zE] at hM) | (refine wpList_store_mem rfl 87 _ _ rfl 1 _ _ _ _ hM rfl rfl rfl rfl sz_Piece rfl ?_; clear hM; intro W hM; simp only [zF, zE] at hM))
      | ((with_reducible refine at_load_ ?_); refine at_wanted_ (by rfl) ?_; first | (refine lM 0 hM rfl rfl rfl (by first | rfl | assumption) ?_) | (refine lM 1 hM rfl rfl rfl (by first | rfl | assumption) ?_))
      | ((with_reducible refine at_store_ ?_); first | (refine sM 0 hM rfl rfl rfl ?_; clear hM; intro W hM; simp only [zF, zE] at hM) | (refine sM 1 hM rfl rfl rfl ?_; clear hM; intro W hM; simp only [zF, zE] at hM)))
    have hcz := hM.cells 0 rfl
    refine bodyPost_ret (v := .tuple #[.agg (cPiece (⟨0, true, false, ⟨#[]⟩⟩)).toArray, .bool true]) (by simp [results, Try.results62, go_sem, hcz, cPiece]) rfl ?_
    exact ⟨rfl, hM.b⟩
  have t3 : ((q.cur : Int) == 0) = false := by simpa using h0
  have hp : qPiece q q.cur lim mss = ⟨q.cur, false, oFinB q q.cur lim mss, byteS (oBody q q.cur lim mss)⟩ := by unfold qPiece; rw [if_pos h1, if_neg h0]
  obtain ⟨k1, k2, k3, k4, k5, k6, k7⟩ := piece_bd ok lim mss h0 h1
  have hfb : oFinB q q.cur lim mss = (q.cl && (decide ((if q.cur < oTo q q.cur lim mss then oTo q q.cur lim mss else q.cur) = oFin q) && decide (oFin q < oLim q lim))) := rfl
  have hto : oTo q q.cur lim mss = if mss < (if oLim q lim < oFin q then oLim q lim else oFin q) - q.cur then q.cur + mss else (if oLim q lim < oFin q then oLim q lim else oFin q) := rfl
  have htt : (if oFin q < oLim q lim then oFin q else oLim q lim) = (if oLim q lim < oFin q then oLim q lim else oFin q) := by split <;> split <;> omega
  have hbo : oBody q q.cur lim mss = if q.cur < oTo q q.cur lim mss then (q.l.drop (q.cur - q.base).toNat).take (oTo q q.cur lim mss - q.cur).toNat else [] := rfl
  generalize hL : oLim q lim = L at *
  generalize qEnd q = En at *
  generalize hFq : oFin q = F at *
  generalize oTo q q.cur lim mss = TO at *
  generalize oBody q q.cur lim mss = BO at *
  generalize oFinB q q.cur lim mss = FB at *
  generalize hTT : (if L < F then L else F) = T at *
  have hTF : T ≤ F ∧ T ≤ L := by rw [← hTT]; split <;> omega
  by_cases hgt : mss < T - q.cur
  · rw [if_pos hgt] at hto
    have hlt : q.cur < TO := by omega
    have u1 : decide (mss < T - q.cur) = true := by simpa using hgt
    have u2 : decide (q.cur < q.cur + mss) = true := by simp; omega
    cases hcl : q.cl
    · have hFB : FB = false := by rw [hfb]; rw [hcl]; rfl
      obtain ⟨i, hi⟩ : ∃ i : Nat, q.cur - q.base = (i : Int) := ⟨(q.cur - q.base).toNat, by omega⟩
      obtain ⟨j, hj⟩ : ∃ j : Nat, TO - q.base = (j : Int) := ⟨(TO - q.base).toNat, by omega⟩
      obtain ⟨g2, off, cap, rfl, hW⟩ := hV.pos (by omega)
      have hcap := hW.le
      rw [if_pos hlt] at hbo
      have hbo2 : BO = (q.l.drop i).take (j - i) := by rw [hbo, show (q.cur - q.base).toNat = i by omega, show (TO - q.cur).toNat = j - i by omega]
      have HP := Lib.hid (show qPiece q q.cur lim mss = ⟨q.cur, false, false, byteS ((q.l.drop i).take (j - i))⟩ by rw [hp, hFB, hbo2])
      have hj2 : (q.cur + mss) - q.base = (j : Int) := by omega
      have v1 : (i : Int) < (j : Int) := by omega
      have v2 : (j : Int) ≤ (cap : Int) := by omega
      have v3 : i ≤ j := by omega
      have v4 : j ≤ cap := by omega
      have v5 : i < cap := by omega
      have v9 : (cap = i) = False := eq_false (by omega)
      have wi : IntKind.i64.wrap (i : Int) = (i : Int) := by rw [IntKind.wrap_i64]; omega
      have wj : IntKind.i64.wrap (j : Int) = (j : Int) := by rw [IntKind.wrap_i64]; omega
      have hj3 : j ≤ q.l.length := by omega
      have c0 := hA.cell
      simp only [oqC] at c0
      have hlt0 := hA.lt
      have HWW := Lib.hid hW
      have HAH := Lib.hid hA
      clear hbo hbo2 hto hj hA hV hW his hfb hFB k6 k7 hp hfd hFq ok
      go_enter Try.func62, Try.ntmps62
      go_upto_region 11 with         (first
          | go_skip
          | (go_at_call 68; go_must (refine (HE.out _ hM.b).mono ?_; rintro e W ⟨rfl, hb⟩); replace hM := hM.kept hb; clear hb)
          | (go_at_call 83; go_must (refine (HF.out _ hM.b).mono ?_; rintro e W ⟨rfl, hb⟩); replace hM := hM.kept hb; clear hb)
          | ((with_reducible refine at_box_ ?_); refine wpList_box_mem rfl _ _ rfl _ rfl hM ?_; clear hM; intro gb W hM; first | (simp only [List.nil_append] at hM) | (simp only [List.cons_append, List.nil_append] at hM))
          | ((with_reducible refine at_alloc_ (T := 87) ?_); refine wpList_alloc_mem rfl 87 rfl _ zv_Piece _ rfl hM ?_; clear hM; intro gb W hM; first | (simp only [List.nil_append] at hM) | (simp only [List.cons_append, List.nil_append] at hM))
          | ((with_reducible refine at_load_ (T := 87) ?_); refine at_wanted_ (by rfl) ?_; first | (refine wpList_loadg_mem (by go_simp) 87 _ rfl 0 _ _ _ hM rfl rfl _ Try.underlying87 rfl sz_Piece ?_) | (refine wpList_loadg_mem (by go_simp) 87 _ rfl 1 _ _ _ hM rfl rfl _ Try.underlying87 rfl sz_Piece ?_))
          | ((with_reducible refine at_store_ (T := 87) ?_); first | (refine wpList_store_mem rfl 87 _ _ rfl 0 _ _ _ _ hM rfl rfl rfl rfl sz_Piece rfl ?_; clear hM; intro W hM; simp only [zE] at hM) | (refine wpList_store_mem rfl 87 _ _ rfl 1 _ _ _ _ hM rfl rfl rfl rfl sz_Piece rfl ?_; clear hM; intro W hM; simp only [zF, zE] at hM))
          | ((with_reducible refine at_load_ ?_); refine at_wanted_ (by rfl) ?_; first | (refine lM 0 hM rfl rfl rfl (by first | rfl | assumption) ?_) | (refine lM 1 hM rfl rfl rfl (by first | rfl | assumption) ?_))
          | ((with_reducible refine at_store_ ?_); first | (refine sM 0 hM rfl rfl rfl ?_; clear hM; intro W hM; simp only [zF, zE] at hM) | (refine sM 1 hM rfl rfl rfl ?_; clear hM; intro W hM; simp only [zF, zE] at hM)))
      have cW := (HAH.out.kept hM.b).cell
      have lW := (HAH.out.kept hM.b).lt
      simp only [oqC] at cW
      have hcv := conv_sub W.drew g2 off cap _ i j q.l ((HWW.out.move (Nat.lt_of_lt_of_le HWW.out.lt hM.b.size) (hM.b.block g2 HWW.out.lt)) : WinAt W.drew 0 1 g2 off cap _ _) v3 hj3
      change ∀ c : Nat, (convert 104 9 (.slice (some ⟨g2, off + i, none⟩) (j - i) c)).run Try.prog { heap := W.heap, tape := W.tape, drawn := W.drawn + 1, os := W.os, output := W.output } = .ok (.string (byteS ((q.l.drop i).take (j - i)))) { heap := W.heap, tape := W.tape, drawn := W.drawn + 1, os := W.os, output := W.output } at hcv
      have v6 : (j : Int) ≤ (q.l.length : Int) := by omega
      have v7 : (0 : Int) ≤ (i : Int) := by omega
      have v8 : i < j := by omega
      refine wp_region_still_tail 19 (by kernel_rfl) (by kernel_rfl) ?_
      simp only [List.take_succ_cons, List.take_zero, List.drop_succ_cons, List.drop_zero]
      repeat still_step
      refine wpStill_conv (by rfl) _ _ _ rfl _ _ rfl (hcv _) ?_
      simp only [Act.put, zD, zE, zF]
      repeat still_step
      refine wpStill_nil ?_
      change wpList _ _ _ _ _ W.drew
      clear hcv cW lW c0 hlt0
      replace hM := hM.kept (Below.refl W.heap.size W).drew
      generalize W.drew = W9 at hM ⊢
      go_upto_region 12 with         (first
          | go_skip
          | ((with_reducible refine at_box_ ?_); refine wpList_box_mem rfl _ _ rfl _ rfl hM ?_; clear hM; intro gb W hM; first | (simp only [List.nil_append] at hM) | (simp only [List.cons_append, List.nil_append] at hM))
          | ((with_reducible refine at_alloc_ (T := 87) ?_); refine wpList_alloc_mem rfl 87 rfl _ zv_Piece _ rfl hM ?_; clear hM; intro gb W hM; first | (simp only [List.nil_append] at hM) | (simp only [List.cons_append, List.nil_append] at hM))
          | ((with_reducible refine at_load_ (T := 87) ?_); refine at_wanted_ (by rfl) ?_; first | (refine wpList_loadg_mem (by go_simp) 87 _ rfl 0 _ _ _ hM rfl rfl _ Try.underlying87 rfl sz_Piece ?_) | (refine wpList_loadg_mem (by go_simp) 87 _ rfl 1 _ _ _ hM rfl rfl _ Try.underlying87 rfl sz_Piece ?_))
          | ((with_reducible refine at_store_ (T := 87) ?_); first | (refine wpList_store_mem rfl 87 _ _ rfl 0 _ _ _ _ hM rfl rfl rfl rfl sz_Piece rfl ?_; clear hM; intro W hM; simp only [zE] at hM) | (refine wpList_store_mem rfl 87 _ _ rfl 1 _ _ _ _ hM rfl rfl rfl rfl sz_Piece rfl ?_; clear hM; intro W hM; simp only [zF, zE] at hM))
          | ((with_reducible refine at_load_ ?_); refine at_wanted_ (by rfl) ?_; first | (refine lM 0 hM rfl rfl rfl (by first | rfl | assumption) ?_) | (refine lM 1 hM rfl rfl rfl (by first | rfl | assumption) ?_))
          | ((with_reducible refine at_store_ ?_); first | (refine sM 0 hM rfl rfl rfl ?_; clear hM; intro W hM; simp only [zF, zE] at hM) | (refine sM 1 hM rfl rfl rfl ?_; clear hM; intro W hM; simp only [zF, zE] at hM)))
      have cW := (HAH.out.kept hM.b).cell
      have lW := (HAH.out.kept hM.b).lt
      simp only [oqC] at cW
      go_wp2_with (first
        | go_skip
        | (go_at_call 68; go_must (refine (HE.out _ hM.b).mono ?_; rintro e W ⟨rfl, hb⟩); replace hM := hM.kept hb; clear hb)
        | (go_at_call 83; go_must (refine (HF.out _ hM.b).mono ?_; rintro e W ⟨rfl, hb⟩); replace hM := hM.kept hb; clear hb)
        | ((with_reducible refine at_box_ ?_); refine wpList_box_mem rfl _ _ rfl _ rfl hM ?_; clear hM; intro gb W hM; first | (simp only [List.nil_append] at hM) | (simp only [List.cons_append, List.nil_append] at hM))
        | ((with_reducible refine at_alloc_ (T := 87) ?_); refine wpList_alloc_mem rfl 87 rfl _ zv_Piece _ rfl hM ?_; clear hM; intro gb W hM; first | (simp only [List.nil_append] at hM) | (simp only [List.cons_append, List.nil_append] at hM))
        | ((with_reducible refine at_load_ (T := 87) ?_); refine at_wanted_ (by rfl) ?_; first | (refine wpList_loadg_mem (by go_simp) 87 _ rfl 0 _ _ _ hM rfl rfl _ Try.underlying87 rfl sz_Piece ?_) | (refine wpList_loadg_mem (by go_simp) 87 _ rfl 1 _ _ _ hM rfl rfl _ Try.underlying87 rfl sz_Piece ?_))
        | ((with_reducible refine at_store_ (T := 87) ?_); first | (refine wpList_store_mem rfl 87 _ _ rfl 0 _ _ _ _ hM rfl rfl rfl rfl sz_Piece rfl ?_; clear hM; intro W hM; simp only [zE] at hM) | (refine wpList_store_mem rfl 87 _ _ rfl 1 _ _ _ _ hM rfl rfl rfl rfl sz_Piece rfl ?_; clear hM; intro W hM; simp only [zF, zE] at hM))
        | ((with_reducible refine at_load_ ?_); refine at_wanted_ (by rfl) ?_; first | (refine lM 0 hM rfl rfl rfl (by first | rfl | assumption) ?_) | (refine lM 1 hM rfl rfl rfl (by first | rfl | assumption) ?_))
        | ((with_reducible refine at_store_ ?_); first | (refine sM 0 hM rfl rfl rfl ?_; clear hM; intro W hM; simp only [zF, zE] at hM) | (refine sM 1 hM rfl rfl rfl ?_; clear hM; intro W hM; simp only [zF, zE] at hM)))
      have hcz := hM.cells 0 rfl
      refine bodyPost_ret (v := .tuple #[.agg (cPiece (⟨q.cur, false, false, byteS ((q.l.drop i).take (j - i))⟩)).toArray, .bool true]) (by simp [results, Try.results62, go_sem, hcz, cPiece]) rfl ?_
      exact ⟨by rw [HP.out], hM.b⟩
    · have u4 : ((q.cur + mss : Int) == F) = false := by simp; omega
      have u6 : (if q.cur < q.cur + mss then q.cur + mss else q.cur) = q.cur + mss := if_pos (by omega)
      have hFB : FB = false := by rw [hfb]; rw [hcl, if_pos hlt, decide_eq_false (show ¬ TO = F by omega)]; rfl
      obtain ⟨i, hi⟩ : ∃ i : Nat, q.cur - q.base = (i : Int) := ⟨(q.cur - q.base).toNat, by omega⟩
      obtain ⟨j, hj⟩ : ∃ j : Nat, TO - q.base = (j : Int) := ⟨(TO - q.base).toNat, by omega⟩
      obtain ⟨g2, off, cap, rfl, hW⟩ := hV.pos (by omega)
      have hcap := hW.le
      rw [if_pos hlt] at hbo
      have hbo2 : BO = (q.l.drop i).take (j - i) := by rw [hbo, show (q.cur - q.base).toNat = i by omega, show (TO - q.cur).toNat = j - i by omega]
      have HP := Lib.hid (show qPiece q q.cur lim mss = ⟨q.cur, false, false, byteS ((q.l.drop i).take (j - i))⟩ by rw [hp, hFB, hbo2])
      have hj2 : (q.cur + mss) - q.base = (j : Int) := by omega
      have v1 : (i : Int) < (j : Int) := by omega
      have v2 : (j : Int) ≤ (cap : Int) := by omega
      have v3 : i ≤ j := by omega
      have v4 : j ≤ cap := by omega
      have v5 : i < cap := by omega
      have v9 : (cap = i) = False := eq_false (by omega)
      have wi : IntKind.i64.wrap (i : Int) = (i : Int) := by rw [IntKind.wrap_i64]; omega
      have wj : IntKind.i64.wrap (j : Int) = (j : Int) := by rw [IntKind.wrap_i64]; omega
      have hj3 : j ≤ q.l.length := by omega
      have c0 := hA.cell
      simp only [oqC] at c0
      have hlt0 := hA.lt
      have HWW := Lib.hid hW
      have HAH := Lib.hid hA
      clear hbo hbo2 hto hj hA hV hW his hfb hFB k6 k7 hp hfd hFq ok
      go_enter Try.func62, Try.ntmps62
      go_upto_region 11 with         (first
          | go_skip
          | (go_at_call 68; go_must (refine (HE.out _ hM.b).mono ?_; rintro e W ⟨rfl, hb⟩); replace hM := hM.kept hb; clear hb)
          | (go_at_call 83; go_must (refine (HF.out _ hM.b).mono ?_; rintro e W ⟨rfl, hb⟩); replace hM := hM.kept hb; clear hb)
          | ((with_reducible refine at_box_ ?_); refine wpList_box_mem rfl _ _ rfl _ rfl hM ?_; clear hM; intro gb W hM; first | (simp only [List.nil_append] at hM) | (simp only [List.cons_append, List.nil_append] at hM))
          | ((with_reducible refine at_alloc_ (T := 87) ?_); refine wpList_alloc_mem rfl 87 rfl _ zv_Piece _ rfl hM ?_; clear hM; intro gb W hM; first | (simp only [List.nil_append] at hM) | (simp only [List.cons_append, List.nil_append] at hM))
          | ((with_reducible refine at_load_ (T := 87) ?_); refine at_wanted_ (by rfl) ?_; first | (refine wpList_loadg_mem (by go_simp) 87 _ rfl 0 _ _ _ hM rfl rfl _ Try.underlying87 rfl sz_Piece ?_) | (refine wpList_loadg_mem (by go_simp) 87 _ rfl 1 _ _ _ hM rfl rfl _ Try.underlying87 rfl sz_Piece ?_))
          | ((with_reducible refine at_store_ (T := 87) ?_); first | (refine wpList_store_mem rfl 87 _ _ rfl 0 _ _ _ _ hM rfl rfl rfl rfl sz_Piece rfl ?_; clear hM; intro W hM; simp only [zE] at hM) | (refine wpList_store_mem rfl 87 _ _ rfl 1 _ _ _ _ hM rfl rfl rfl rfl sz_Piece rfl ?_; clear hM; intro W hM; simp only [zF, zE] at hM))
          | ((with_reducible refine at_load_ ?_); refine at_wanted_ (by rfl) ?_; first | (refine lM 0 hM rfl rfl rfl (by first | rfl | assumption) ?_) | (refine lM 1 hM rfl rfl rfl (by first | rfl | assumption) ?_))
          | ((with_reducible refine at_store_ ?_); first | (refine sM 0 hM rfl rfl rfl ?_; clear hM; intro W hM; simp only [zF, zE] at hM) | (refine sM 1 hM rfl rfl rfl ?_; clear hM; intro W hM; simp only [zF, zE] at hM)))
      have cW := (HAH.out.kept hM.b).cell
      have lW := (HAH.out.kept hM.b).lt
      simp only [oqC] at cW
      have hcv := conv_sub W.drew g2 off cap _ i j q.l ((HWW.out.move (Nat.lt_of_lt_of_le HWW.out.lt hM.b.size) (hM.b.block g2 HWW.out.lt)) : WinAt W.drew 0 1 g2 off cap _ _) v3 hj3
      change ∀ c : Nat, (convert 104 9 (.slice (some ⟨g2, off + i, none⟩) (j - i) c)).run Try.prog { heap := W.heap, tape := W.tape, drawn := W.drawn + 1, os := W.os, output := W.output } = .ok (.string (byteS ((q.l.drop i).take (j - i)))) { heap := W.heap, tape := W.tape, drawn := W.drawn + 1, os := W.os, output := W.output } at hcv
      have v6 : (j : Int) ≤ (q.l.length : Int) := by omega
      have v7 : (0 : Int) ≤ (i : Int) := by omega
      have v8 : i < j := by omega
      refine wp_region_still_tail 19 (by kernel_rfl) (by kernel_rfl) ?_
      simp only [List.take_succ_cons, List.take_zero, List.drop_succ_cons, List.drop_zero]
      repeat still_step
      refine wpStill_conv (by rfl) _ _ _ rfl _ _ rfl (hcv _) ?_
      simp only [Act.put, zD, zE, zF]
      repeat still_step
      refine wpStill_nil ?_
      change wpList _ _ _ _ _ W.drew
      clear hcv cW lW c0 hlt0
      replace hM := hM.kept (Below.refl W.heap.size W).drew
      generalize W.drew = W9 at hM ⊢
      go_upto_region 12 with         (first
          | go_skip
          | ((with_reducible refine at_box_ ?_); refine wpList_box_mem rfl _ _ rfl _ rfl hM ?_; clear hM; intro gb W hM; first | (simp only [List.nil_append] at hM) | (simp only [List.cons_append, List.nil_append] at hM))
          | ((with_reducible refine at_alloc_ (T := 87) ?_); refine wpList_alloc_mem rfl 87 rfl _ zv_Piece _ rfl hM ?_; clear hM; intro gb W hM; first | (simp only [List.nil_append] at hM) | (simp only [List.cons_append, List.nil_append] at hM))
          | ((with_reducible refine at_load_ (T := 87) ?_); refine at_wanted_ (by rfl) ?_; first | (refine wpList_loadg_mem (by go_simp) 87 _ rfl 0 _ _ _ hM rfl rfl _ Try.underlying87 rfl sz_Piece ?_) | (refine wpList_loadg_mem (by go_simp) 87 _ rfl 1 _ _ _ hM rfl rfl _ Try.underlying87 rfl sz_Piece ?_))
          | ((with_reducible refine at_store_ (T := 87) ?_); first | (refine wpList_store_mem rfl 87 _ _ rfl 0 _ _ _ _ hM rfl rfl rfl rfl sz_Piece rfl ?_; clear hM; intro W hM; simp only [zE] at hM) | (refine wpList_store_mem rfl 87 _ _ rfl 1 _ _ _ _ hM rfl rfl rfl rfl sz_Piece rfl ?_; clear hM; intro W hM; simp only [zF, zE] at hM))
          | ((with_reducible refine at_load_ ?_); refine at_wanted_ (by rfl) ?_; first | (refine lM 0 hM rfl rfl rfl (by first | rfl | assumption) ?_) | (refine lM 1 hM rfl rfl rfl (by first | rfl | assumption) ?_))
          | ((with_reducible refine at_store_ ?_); first | (refine sM 0 hM rfl rfl rfl ?_; clear hM; intro W hM; simp only [zF, zE] at hM) | (refine sM 1 hM rfl rfl rfl ?_; clear hM; intro W hM; simp only [zF, zE] at hM)))
      have cW := (HAH.out.kept hM.b).cell
      have lW := (HAH.out.kept hM.b).lt
      simp only [oqC] at cW
      go_wp2_with (first
        | go_skip
        | (go_at_call 68; go_must (refine (HE.out _ hM.b).mono ?_; rintro e W ⟨rfl, hb⟩); replace hM := hM.kept hb; clear hb)
        | (go_at_call 83; go_must (refine (HF.out _ hM.b).mono ?_; rintro e W ⟨rfl, hb⟩); replace hM := hM.kept hb; clear hb)
        | ((with_reducible refine at_box_ ?_); refine wpList_box_mem rfl _ _ rfl _ rfl hM ?_; clear hM; intro gb W hM; first | (simp only [List.nil_append] at hM) | (simp only [List.cons_append, List.nil_append] at hM))
        | ((with_reducible refine at_alloc_ (T := 87) ?_); refine wpList_alloc_mem rfl 87 rfl _ zv_Piece _ rfl hM ?_; clear hM; intro gb W hM; first | (simp only [List.nil_append] at hM) | (simp only [List.cons_append, List.nil_append] at hM))
        | ((with_reducible refine at_load_ (T := 87) ?_); refine at_wanted_ (by rfl) ?_; first | (refine wpList_loadg_mem (by go_simp) 87 _ rfl 0 _ _ _ hM rfl rfl _ Try.underlying87 rfl sz_Piece ?_) | (refine wpList_loadg_mem (by go_simp) 87 _ rfl 1 _ _ _ hM rfl rfl _ Try.underlying87 rfl sz_Piece ?_))
        | ((with_reducible refine at_store_ (T := 87) ?_); first | (refine wpList_store_mem rfl 87 _ _ rfl 0 _ _ _ _ hM rfl rfl rfl rfl sz_Piece rfl ?_; clear hM; intro W hM; simp only [zE] at hM) | (refine wpList_store_mem rfl 87 _ _ rfl 1 _ _ _ _ hM rfl rfl rfl rfl sz_Piece rfl ?_; clear hM; intro W hM; simp only [zF, zE] at hM))
        | ((with_reducible refine at_load_ ?_); refine at_wanted_ (by rfl) ?_; first | (refine lM 0 hM rfl rfl rfl (by first | rfl | assumption) ?_) | (refine lM 1 hM rfl rfl rfl (by first | rfl | assumption) ?_))
        | ((with_reducible refine at_store_ ?_); first | (refine sM 0 hM rfl rfl rfl ?_; clear hM; intro W hM; simp only [zF, zE] at hM) | (refine sM 1 hM rfl rfl rfl ?_; clear hM; intro W hM; simp only [zF, zE] at hM)))
      have hcz := hM.cells 0 rfl
      refine bodyPost_ret (v := .tuple #[.agg (cPiece (⟨q.cur, false, false, byteS ((q.l.drop i).take (j - i))⟩)).toArray, .bool true]) (by simp [results, Try.results62, go_sem, hcz, cPiece]) rfl ?_
      exact ⟨by rw [HP.out], hM.b⟩
  · rw [if_neg hgt] at hto
    subst hto
    have u1 : decide (mss < TO - q.cur) = false := by simpa using hgt
    by_cases hlt : q.cur < TO
    · have u2 : decide (q.cur < TO) = true := by simpa using hlt
      have u6 : (if q.cur < TO then TO else q.cur) = TO := if_pos hlt
      cases hcl : q.cl
      · have hFB : FB = false := by rw [hfb]; rw [hcl]; rfl
        obtain ⟨i, hi⟩ : ∃ i : Nat, q.cur - q.base = (i : Int) := ⟨(q.cur - q.base).toNat, by omega⟩
        obtain ⟨j, hj⟩ : ∃ j : Nat, TO - q.base = (j : Int) := ⟨(TO - q.base).toNat, by omega⟩
        obtain ⟨g2, off, cap, rfl, hW⟩ := hV.pos (by omega)
        have hcap := hW.le
        rw [if_pos hlt] at hbo
        have hbo2 : BO = (q.l.drop i).take (j - i) := by rw [hbo, show (q.cur - q.base).toNat = i by omega, show (TO - q.cur).toNat = j - i by omega]
        have HP := Lib.hid (show qPiece q q.cur lim mss = ⟨q.cur, false, false, byteS ((q.l.drop i).take (j - i))⟩ by rw [hp, hFB, hbo2])
        have hj2 : TO - q.base = (j : Int) := by omega
        have v1 : (i : Int) < (j : Int) := by omega
        have v2 : (j : Int) ≤ (cap : Int) := by omega
        have v3 : i ≤ j := by omega
        have v4 : j ≤ cap := by omega
        have v5 : i < cap := by omega
        have v9 : (cap = i) = False := eq_false (by omega)
        have wi : IntKind.i64.wrap (i : Int) = (i : Int) := by rw [IntKind.wrap_i64]; omega
        have wj : IntKind.i64.wrap (j : Int) = (j : Int) := by rw [IntKind.wrap_i64]; omega
        have hj3 : j ≤ q.l.length := by omega
        have c0 := hA.cell
        simp only [oqC] at c0
        have hlt0 := hA.lt
        have HWW := Lib.hid hW
        have HAH := Lib.hid hA
        clear hbo hbo2 hj hA hV hW his hfb hFB k6 k7 hp hfd hFq ok
        go_enter Try.func62, Try.ntmps62
        go_upto_region 11 with         (first
          | go_skip
          | (go_at_call 68; go_must (refine (HE.out _ hM.b).mono ?_; rintro e W ⟨rfl, hb⟩); replace hM := hM.kept hb; clear hb)
          | (go_at_call 83; go_must (refine (HF.out _ hM.b).mono ?_; rintro e W ⟨rfl, hb⟩); replace hM := hM.kept hb; clear hb)
          | ((with_reducible refine at_box_ ?_); refine wpList_box_mem rfl _ _ rfl _ rfl hM ?_; clear hM; intro gb W hM; first | (simp only [List.nil_append] at hM) | (simp only [List.cons_append, List.nil_append] at hM))
          | ((with_reducible refine at_alloc_ (T := 87) ?_); refine wpList_alloc_mem rfl 87 rfl _ zv_Piece _ rfl hM ?_; clear hM; intro gb W hM; first | (simp only [List.nil_append] at hM) | (simp only [List.cons_append, List.nil_append] at hM))
          | ((with_reducible refine at_load_ (T := 87) ?_); refine at_wanted_ (by rfl) ?_; first | (refine wpList_loadg_mem (by go_simp) 87 _ rfl 0 _ _ _ hM rfl rfl _ Try.underlying87 rfl sz_Piece ?_) | (refine wpList_loadg_mem (by go_simp) 87 _ rfl 1 _ _ _ hM rfl rfl _ Try.underlying87 rfl sz_Piece ?_))
          | ((with_reducible refine at_store_ (T := 87) ?_); first | (refine wpList_store_mem rfl 87 _ _ rfl 0 _ _ _ _ hM rfl rfl rfl rfl sz_Piece rfl ?_; clear hM; intro W hM; simp only [zE] at hM) | (refine wpList_store_mem rfl 87 _ _ rfl 1 _ _ _ _ hM rfl rfl rfl rfl sz_Piece rfl ?_; clear hM; intro W hM; simp only [zF, zE] at hM))
          | ((with_reducible refine at_load_ ?_); refine at_wanted_ (by rfl) ?_; first | (refine lM 0 hM rfl rfl rfl (by first | rfl | assumption) ?_) | (refine lM 1 hM rfl rfl rfl (by first | rfl | assumption) ?_))
          | ((with_reducible refine at_store_ ?_); first | (refine sM 0 hM rfl rfl rfl ?_; clear hM; intro W hM; simp only [zF, zE] at hM) | (refine sM 1 hM rfl rfl rfl ?_; clear hM; intro W hM; simp only [zF, zE] at hM)))
        have cW := (HAH.out.kept hM.b).cell
        have lW := (HAH.out.kept hM.b).lt
        simp only [oqC] at cW
        have hcv := conv_sub W.drew g2 off cap _ i j q.l ((HWW.out.move (Nat.lt_of_lt_of_le HWW.out.lt hM.b.size) (hM.b.block g2 HWW.out.lt)) : WinAt W.drew 0 1 g2 off cap _ _) v3 hj3
        change ∀ c : Nat, (convert 104 9 (.slice (some ⟨g2, off + i, none⟩) (j - i) c)).run Try.prog { heap := W.heap, tape := W.tape, drawn := W.drawn + 1, os := W.os, output := W.output } = .ok (.string (byteS ((q.l.drop i).take (j - i)))) { heap := W.heap, tape := W.tape, drawn := W.drawn + 1, os := W.os, output := W.output } at hcv
        have v6 : (j : Int) ≤ (q.l.length : Int) := by omega
        have v7 : (0 : Int) ≤ (i : Int) := by omega
        have v8 : i < j := by omega
        refine wp_region_still_tail 19 (by kernel_rfl) (by kernel_rfl) ?_
        simp only [List.take_succ_cons, List.take_zero, List.drop_succ_cons, List.drop_zero]
        repeat still_step
        refine wpStill_conv (by rfl) _ _ _ rfl _ _ rfl (hcv _) ?_
        simp only [Act.put, zD, zE, zF]
        repeat still_step
        refine wpStill_nil ?_
        change wpList _ _ _ _ _ W.drew
        clear hcv cW lW c0 hlt0
        replace hM := hM.kept (Below.refl W.heap.size W).drew
        generalize W.drew = W9 at hM ⊢
        go_upto_region 12 with         (first
          | go_skip
          | ((with_reducible refine at_box_ ?_); refine wpList_box_mem rfl _ _ rfl _ rfl hM ?_; clear hM; intro gb W hM; first | (simp only [List.nil_append] at hM) | (simp only [List.cons_append, List.nil_append] at hM))
          | ((with_reducible refine at_alloc_ (T := 87) ?_); refine wpList_alloc_mem rfl 87 rfl _ zv_Piece _ rfl hM ?_; clear hM; intro gb W hM; first | (simp only [List.nil_append] at hM) | (simp only [List.cons_append, List.nil_append] at hM))
          | ((with_reducible refine at_load_ (T := 87) ?_); refine at_wanted_ (by rfl) ?_; first | (refine wpList_loadg_mem (by go_simp) 87 _ rfl 0 _ _ _ hM rfl rfl _ Try.underlying87 rfl sz_Piece ?_) | (refine wpList_loadg_mem (by go_simp) 87 _ rfl 1 _ _ _ hM rfl rfl _ Try.underlying87 rfl sz_Piece ?_))
          | ((with_reducible refine at_store_ (T := 87) ?_); first | (refine wpList_store_mem rfl 87 _ _ rfl 0 _ _ _ _ hM rfl rfl rfl rfl sz_Piece rfl ?_; clear hM; intro W hM; simp only [zE] at hM) | (refine wpList_store_mem rfl 87 _ _ rfl 1 _ _ _ _ hM rfl rfl rfl rfl sz_Piece rfl ?_; clear hM; intro W hM; simp only [zF, zE] at hM))
          | ((with_reducible refine at_load_ ?_); refine at_wanted_ (by rfl) ?_; first | (refine lM 0 hM rfl rfl rfl (by first | rfl | assumption) ?_) | (refine lM 1 hM rfl rfl rfl (by first | rfl | assumption) ?_))
          | ((with_reducible refine at_store_ ?_); first | (refine sM 0 hM rfl rfl rfl ?_; clear hM; intro W hM; simp only [zF, zE] at hM) | (refine sM 1 hM rfl rfl rfl ?_; clear hM; intro W hM; simp only [zF, zE] at hM)))
        have cW := (HAH.out.kept hM.b).cell
        have lW := (HAH.out.kept hM.b).lt
        simp only [oqC] at cW
        go_wp2_with (first
          | go_skip
          | (go_at_call 68; go_must (refine (HE.out _ hM.b).mono ?_; rintro e W ⟨rfl, hb⟩); replace hM := hM.kept hb; clear hb)
          | (go_at_call 83; go_must (refine (HF.out _ hM.b).mono ?_; rintro e W ⟨rfl, hb⟩); replace hM := hM.kept hb; clear hb)
          | ((with_reducible refine at_box_ ?_); refine wpList_box_mem rfl _ _ rfl _ rfl hM ?_; clear hM; intro gb W hM; first | (simp only [List.nil_append] at hM) | (simp only [List.cons_append, List.nil_append] at hM))
          | ((with_reducible refine at_alloc_ (T := 87) ?_); refine wpList_alloc_mem rfl 87 rfl _ zv_Piece _ rfl hM ?_; clear hM; intro gb W hM; first | (simp only [List.nil_append] at hM) | (simp only [List.cons_append, List.nil_append] at hM))
          | ((with_reducible refine at_load_ (T := 87) ?_); refine at_wanted_ (by rfl) ?_; first | (refine wpList_loadg_mem (by go_simp) 87 _ rfl 0 _ _ _ hM rfl rfl _ Try.underlying87 rfl sz_Piece ?_) | (refine wpList_loadg_mem (by go_simp) 87 _ rfl 1 _ _ _ hM rfl rfl _ Try.underlying87 rfl sz_Piece ?_))
          | ((with_reducible refine at_store_ (T := 87) ?_); first | (refine wpList_store_mem rfl 87 _ _ rfl 0 _ _ _ _ hM rfl rfl rfl rfl sz_Piece rfl ?_; clear hM; intro W hM; simp only [zE] at hM) | (refine wpList_store_mem rfl 87 _ _ rfl 1 _ _ _ _ hM rfl rfl rfl rfl sz_Piece rfl ?_; clear hM; intro W hM; simp only [zF, zE] at hM))
          | ((with_reducible refine at_load_ ?_); refine at_wanted_ (by rfl) ?_; first | (refine lM 0 hM rfl rfl rfl (by first | rfl | assumption) ?_) | (refine lM 1 hM rfl rfl rfl (by first | rfl | assumption) ?_))
          | ((with_reducible refine at_store_ ?_); first | (refine sM 0 hM rfl rfl rfl ?_; clear hM; intro W hM; simp only [zF, zE] at hM) | (refine sM 1 hM rfl rfl rfl ?_; clear hM; intro W hM; simp only [zF, zE] at hM)))
        have hcz := hM.cells 0 rfl
        refine bodyPost_ret (v := .tuple #[.agg (cPiece (⟨q.cur, false, false, byteS ((q.l.drop i).take (j - i))⟩)).toArray, .bool true]) (by simp [results, Try.results62, go_sem, hcz, cPiece]) rfl ?_
        exact ⟨by rw [HP.out], hM.b⟩
      · by_cases hTe : TO = F
        · have u4 : ((TO : Int) == F) = true := by simpa using hTe
          by_cases hFL : F < L
          · have u5 : decide (F < L) = true := by simpa using hFL
            have hFB : FB = true := by rw [hfb]; rw [hcl, if_pos hlt, decide_eq_true hTe, decide_eq_true hFL]; rfl
            obtain ⟨i, hi⟩ : ∃ i : Nat, q.cur - q.base = (i : Int) := ⟨(q.cur - q.base).toNat, by omega⟩
            obtain ⟨j, hj⟩ : ∃ j : Nat, TO - q.base = (j : Int) := ⟨(TO - q.base).toNat, by omega⟩
            obtain ⟨g2, off, cap, rfl, hW⟩ := hV.pos (by omega)
            have hcap := hW.le
            rw [if_pos hlt] at hbo
            have hbo2 : BO = (q.l.drop i).take (j - i) := by rw [hbo, show (q.cur - q.base).toNat = i by omega, show (TO - q.cur).toNat = j - i by omega]
            have HP := Lib.hid (show qPiece q q.cur lim mss = ⟨q.cur, false, true, byteS ((q.l.drop i).take (j - i))⟩ by rw [hp, hFB, hbo2])
            have hj2 : TO - q.base = (j : Int) := by omega
            have v1 : (i : Int) < (j : Int) := by omega
            have v2 : (j : Int) ≤ (cap : Int) := by omega
            have v3 : i ≤ j := by omega
            have v4 : j ≤ cap := by omega
            have v5 : i < cap := by omega
            have v9 : (cap = i) = False := eq_false (by omega)
            have wi : IntKind.i64.wrap (i : Int) = (i : Int) := by rw [IntKind.wrap_i64]; omega
            have wj : IntKind.i64.wrap (j : Int) = (j : Int) := by rw [IntKind.wrap_i64]; omega
            clear hTe hFL
            have hj3 : j ≤ q.l.length := by omega
            have c0 := hA.cell
            simp only [oqC] at c0
            have hlt0 := hA.lt
            have HWW := Lib.hid hW
            have HAH := Lib.hid hA
            clear hbo hbo2 hj hA hV hW his hfb hFB k6 k7 hp hfd hFq ok
            go_enter Try.func62, Try.ntmps62
            go_upto_region 11 with         (first
          | go_skip
          | (go_at_call 68; go_must (refine (HE.out _ hM.b).mono ?_; rintro e W ⟨rfl, hb⟩); replace hM := hM.kept hb; clear hb)
          | (go_at_call 83; go_must (refine (HF.out _ hM.b).mono ?_; rintro e W ⟨rfl, hb⟩); replace hM := hM.kept hb; clear hb)
          | ((with_reducible refine at_box_ ?_); refine wpList_box_mem rfl _ _ rfl _ rfl hM ?_; clear hM; intro gb W hM; first | (simp only [List.nil_append] at hM) | (simp only [List.cons_append, List.nil_append] at hM))
          | ((with_reducible refine at_alloc_ (T := 87) ?_); refine wpList_alloc_mem rfl 87 rfl _ zv_Piece _ rfl hM ?_; clear hM; intro gb W hM; first | (simp only [List.nil_append] at hM) | (simp only [List.cons_append, List.nil_append] at hM))
          | ((with_reducible refine at_load_ (T := 87) ?_); refine at_wanted_ (by rfl) ?_; first | (refine wpList_loadg_mem (by go_simp) 87 _ rfl 0 _ _ _ hM rfl rfl _ Try.underlying87 rfl sz_Piece ?_) | (refine wpList_loadg_mem (by go_simp) 87 _ rfl 1 _ _ _ hM rfl rfl _ Try.underlying87 rfl sz_Piece ?_))
          | ((with_reducible refine at_store_ (T := 87) ?_); first | (refine wpList_store_mem rfl 87 _ _ rfl 0 _ _ _ _ hM rfl rfl rfl rfl sz_Piece rfl ?_; clear hM; intro W hM; simp only [zE] at hM) | (refine wpList_store_mem rfl 87 _ _ rfl 1 _ _ _ _ hM rfl rfl rfl rfl sz_Piece rfl ?_; clear hM; intro W hM; simp only [zF, zE] at hM))
          | ((with_reducible refine at_load_ ?_); refine at_wanted_ (by rfl) ?_; first | (refine lM 0 hM rfl rfl rfl (by first | rfl | assumption) ?_) | (refine lM 1 hM rfl rfl rfl (by first | rfl | assumption) ?_))
          | ((with_reducible refine at_store_ ?_); first | (refine sM 0 hM rfl rfl rfl ?_; clear hM; intro W hM; simp only [zF, zE] at hM) | (refine sM 1 hM rfl rfl rfl ?_; clear hM; intro W hM; simp only [zF, zE] at hM)))
            have cW := (HAH.out.kept hM.b).cell
            have lW := (HAH.out.kept hM.b).lt
            simp only [oqC] at cW
            have hcv := conv_sub W.drew g2 off cap _ i j q.l ((HWW.out.move (Nat.lt_of_lt_of_le HWW.out.lt hM.b.size) (hM.b.block g2 HWW.out.lt)) : WinAt W.drew 0 1 g2 off cap _ _) v3 hj3
            change ∀ c : Nat, (convert 104 9 (.slice (some ⟨g2, off + i, none⟩) (j - i) c)).run Try.prog { heap := W.heap, tape := W.tape, drawn := W.drawn + 1, os := W.os, output := W.output } = .ok (.string (byteS ((q.l.drop i).take (j - i)))) { heap := W.heap, tape := W.tape, drawn := W.drawn + 1, os := W.os, output := W.output } at hcv
            have v6 : (j : Int) ≤ (q.l.length : Int) := by omega
            have v7 : (0 : Int) ≤ (i : Int) := by omega
            have v8 : i < j := by omega
            refine wp_region_still_tail 19 (by kernel_rfl) (by kernel_rfl) ?_
            simp only [List.take_succ_cons, List.take_zero, List.drop_succ_cons, List.drop_zero]
            repeat still_step
            refine wpStill_conv (by rfl) _ _ _ rfl _ _ rfl (hcv _) ?_
            simp only [Act.put, zD, zE, zF]
            repeat still_step
            refine wpStill_nil ?_
            change wpList _ _ _ _ _ W.drew
            clear hcv cW lW c0 hlt0
            replace hM := hM.kept (Below.refl W.heap.size W).drew
            generalize W.drew = W9 at hM ⊢
            go_upto_region 12 with         (first
          | go_skip
          | ((with_reducible refine at_box_ ?_); refine wpList_box_mem rfl _ _ rfl _ rfl hM ?_; clear hM; intro gb W hM; first | (simp only [List.nil_append] at hM) | (simp only [List.cons_append, List.nil_append] at hM))
          | ((with_reducible refine at_alloc_ (T := 87) ?_); refine wpList_alloc_mem rfl 87 rfl _ zv_Piece _ rfl hM ?_; clear hM; intro gb W hM; first | (simp only [List.nil_append] at hM) | (simp only [List.cons_append, List.nil_append] at hM))
          | ((with_reducible refine at_load_ (T := 87) ?_); refine at_wanted_ (by rfl) ?_; first | (refine wpList_loadg_mem (by go_simp) 87 _ rfl 0 _ _ _ hM rfl rfl _ Try.underlying87 rfl sz_Piece ?_) | (refine wpList_loadg_mem (by go_simp) 87 _ rfl 1 _ _ _ hM rfl rfl _ Try.underlying87 rfl sz_Piece ?_))
          | ((with_reducible refine at_store_ (T := 87) ?_); first | (refine wpList_store_mem rfl 87 _ _ rfl 0 _ _ _ _ hM rfl rfl rfl rfl sz_Piece rfl ?_; clear hM; intro W hM; simp only [zE] at hM) | (refine wpList_store_mem rfl 87 _ _ rfl 1 _ _ _ _ hM rfl rfl rfl rfl sz_Piece rfl ?_; clear hM; intro W hM; simp only [zF, zE] at hM))
          | ((with_reducible refine at_load_ ?_); refine at_wanted_ (by rfl) ?_; first | (refine lM 0 hM rfl rfl rfl (by first | rfl | assumption) ?_) | (refine lM 1 hM rfl rfl rfl (by first | rfl | assumption) ?_))
          | ((with_reducible refine at_store_ ?_); first | (refine sM 0 hM rfl rfl rfl ?_; clear hM; intro W hM; simp only [zF, zE] at hM) | (refine sM 1 hM rfl rfl rfl ?_; clear hM; intro W hM; simp only [zF, zE] at hM)))
            have cW := (HAH.out.kept hM.b).cell
            have lW := (HAH.out.kept hM.b).lt
            simp only [oqC] at cW
            go_wp2_with (first
              | go_skip
              | (go_at_call 68; go_must (refine (HE.out _ hM.b).mono ?_; rintro e W ⟨rfl, hb⟩); replace hM := hM.kept hb; clear hb)
              | (go_at_call 83; go_must (refine (HF.out _ hM.b).mono ?_; rintro e W ⟨rfl, hb⟩); replace hM := hM.kept hb; clear hb)
              | ((with_reducible refine at_box_ ?_); refine wpList_box_mem rfl _ _ rfl _ rfl hM ?_; clear hM; intro gb W hM; first | (simp only [List.nil_append] at hM) | (simp only [List.cons_append, List.nil_append] at hM))
              | ((with_reducible refine at_alloc_ (T := 87) ?_); refine wpList_alloc_mem rfl 87 rfl _ zv_Piece _ rfl hM ?_; clear hM; intro gb W hM; first | (simp only [List.nil_append] at hM) | (simp only [List.cons_append, List.nil_append] at hM))
              | ((with_reducible refine at_load_ (T := 87) ?_); refine at_wanted_ (by rfl) ?_; first | (refine wpList_loadg_mem (by go_simp) 87 _ rfl 0 _ _ _ hM rfl rfl _ Try.underlying87 rfl sz_Piece ?_) | (refine wpList_loadg_mem (by go_simp) 87 _ rfl 1 _ _ _ hM rfl rfl _ Try.underlying87 rfl sz_Piece ?_))
              | ((with_reducible refine at_store_ (T := 87) ?_); first | (refine wpList_store_mem rfl 87 _ _ rfl 0 _ _ _ _ hM rfl rfl rfl rfl sz_Piece rfl ?_; clear hM; intro W hM; simp only [zE] at hM) | (refine wpList_store_mem rfl 87 _ _ rfl 1 _ _ _ _ hM rfl rfl rfl rfl sz_Piece rfl ?_; clear hM; intro W hM; simp only [zF, zE] at hM))
              | ((with_reducible refine at_load_ ?_); refine at_wanted_ (by rfl) ?_; first | (refine lM 0 hM rfl rfl rfl (by first | rfl | assumption) ?_) | (refine lM 1 hM rfl rfl rfl (by first | rfl | assumption) ?_))
              | ((with_reducible refine at_store_ ?_); first | (refine sM 0 hM rfl rfl rfl ?_; clear hM; intro W hM; simp only [zF, zE] at hM) | (refine sM 1 hM rfl rfl rfl ?_; clear hM; intro W hM; simp only [zF, zE] at hM)))
            have hcz := hM.cells 0 rfl
            refine bodyPost_ret (v := .tuple #[.agg (cPiece (⟨q.cur, false, true, byteS ((q.l.drop i).take (j - i))⟩)).toArray, .bool true]) (by simp [results, Try.results62, go_sem, hcz, cPiece]) rfl ?_
            exact ⟨by rw [HP.out], hM.b⟩
          · obtain rfl : TO = L := by omega
            clear u4
            obtain rfl : TO = F := hTe
            have u4 : ((TO : Int) == TO) = true := by simp
            have u5 : decide (TO < TO) = false := by simp
            have hFB : FB = false := by rw [hfb]; rw [hcl, if_pos hlt, decide_eq_true (rfl : TO = TO), decide_eq_false (show ¬ TO < TO by omega)]; rfl
            obtain ⟨i, hi⟩ : ∃ i : Nat, q.cur - q.base = (i : Int) := ⟨(q.cur - q.base).toNat, by omega⟩
            obtain ⟨j, hj⟩ : ∃ j : Nat, TO - q.base = (j : Int) := ⟨(TO - q.base).toNat, by omega⟩
            obtain ⟨g2, off, cap, rfl, hW⟩ := hV.pos (by omega)
            have hcap := hW.le
            rw [if_pos hlt] at hbo
            have hbo2 : BO = (q.l.drop i).take (j - i) := by rw [hbo, show (q.cur - q.base).toNat = i by omega, show (TO - q.cur).toNat = j - i by omega]
            have HP := Lib.hid (show qPiece q q.cur lim mss = ⟨q.cur, false, false, byteS ((q.l.drop i).take (j - i))⟩ by rw [hp, hFB, hbo2])
            have hj2 : TO - q.base = (j : Int) := by omega
            have v1 : (i : Int) < (j : Int) := by omega
            have v2 : (j : Int) ≤ (cap : Int) := by omega
            have v3 : i ≤ j := by omega
            have v4 : j ≤ cap := by omega
            have v5 : i < cap := by omega
            have v9 : (cap = i) = False := eq_false (by omega)
            have wi : IntKind.i64.wrap (i : Int) = (i : Int) := by rw [IntKind.wrap_i64]; omega
            have wj : IntKind.i64.wrap (j : Int) = (j : Int) := by rw [IntKind.wrap_i64]; omega
            have hj3 : j ≤ q.l.length := by omega
            have c0 := hA.cell
            simp only [oqC] at c0
            have hlt0 := hA.lt
            have HWW := Lib.hid hW
            have HAH := Lib.hid hA
            clear hbo hbo2 hj hA hV hW his hfb hFB k6 k7 hp hfd hFq ok
            go_enter Try.func62, Try.ntmps62
            go_upto_region 11 with         (first
          | go_skip
          | (go_at_call 68; go_must (refine (HE.out _ hM.b).mono ?_; rintro e W ⟨rfl, hb⟩); replace hM := hM.kept hb; clear hb)
          | (go_at_call 83; go_must (refine (HF.out _ hM.b).mono ?_; rintro e W ⟨rfl, hb⟩); replace hM := hM.kept hb; clear hb)
          | ((with_reducible refine at_box_ ?_); refine wpList_box_mem rfl _ _ rfl _ rfl hM ?_; clear hM; intro gb W hM; first | (simp only [List.nil_append] at hM) | (simp only [List.cons_append, List.nil_append] at hM))
          | ((with_reducible refine at_alloc_ (T := 87) ?_); refine wpList_alloc_mem rfl 87 rfl _ zv_Piece _ rfl hM ?_; clear hM; intro gb W hM; first | (simp only [List.nil_append] at hM) | (simp only [List.cons_append, List.nil_append] at hM))
          | ((with_reducible refine at_load_ (T := 87) ?_); refine at_wanted_ (by rfl) ?_; first | (refine wpList_loadg_mem (by go_simp) 87 _ rfl 0 _ _ _ hM rfl rfl _ Try.underlying87 rfl sz_Piece ?_) | (refine wpList_loadg_mem (by go_simp) 87 _ rfl 1 _ _ _ hM rfl rfl _ Try.underlying87 rfl sz_Piece ?_))
          | ((with_reducible refine at_store_ (T := 87) ?_); first | (refine wpList_store_mem rfl 87 _ _ rfl 0 _ _ _ _ hM rfl rfl rfl rfl sz_Piece rfl ?_; clear hM; intro W hM; simp only [zE] at hM) | (refine wpList_store_mem rfl 87 _ _ rfl 1 _ _ _ _ hM rfl rfl rfl rfl sz_Piece rfl ?_; clear hM; intro W hM; simp only [zF, zE] at hM))
          | ((with_reducible refine at_load_ ?_); refine at_wanted_ (by rfl) ?_; first | (refine lM 0 hM rfl rfl rfl (by first | rfl | assumption) ?_) | (refine lM 1 hM rfl rfl rfl (by first | rfl | assumption) ?_))
          | ((with_reducible refine at_store_ ?_); first | (refine sM 0 hM rfl rfl rfl ?_; clear hM; intro W hM; simp only [zF, zE] at hM) | (refine sM 1 hM rfl rfl rfl ?_; clear hM; intro W hM; simp only [zF, zE] at hM)))
            have cW := (HAH.out.kept hM.b).cell
            have lW := (HAH.out.kept hM.b).lt
            simp only [oqC] at cW
            have hcv := conv_sub W.drew g2 off cap _ i j q.l ((HWW.out.move (Nat.lt_of_lt_of_le HWW.out.lt hM.b.size) (hM.b.block g2 HWW.out.lt)) : WinAt W.drew 0 1 g2 off cap _ _) v3 hj3
            change ∀ c : Nat, (convert 104 9 (.slice (some ⟨g2, off + i, none⟩) (j - i) c)).run Try.prog { heap := W.heap, tape := W.tape, drawn := W.drawn + 1, os := W.os, output := W.output } = .ok (.string (byteS ((q.l.drop i).take (j - i)))) { heap := W.heap, tape := W.tape, drawn := W.drawn + 1, os := W.os, output := W.output } at hcv
            have v6 : (j : Int) ≤ (q.l.length : Int) := by omega
            have v7 : (0 : Int) ≤ (i : Int) := by omega
            have v8 : i < j := by omega
            refine wp_region_still_tail 19 (by kernel_rfl) (by kernel_rfl) ?_
            simp only [List.take_succ_cons, List.take_zero, List.drop_succ_cons, List.drop_zero]
            repeat still_step
            refine wpStill_conv (by rfl) _ _ _ rfl _ _ rfl (hcv _) ?_
            simp only [Act.put, zD, zE, zF]
            repeat still_step
            refine wpStill_nil ?_
            change wpList _ _ _ _ _ W.drew
            clear hcv cW lW c0 hlt0
            replace hM := hM.kept (Below.refl W.heap.size W).drew
            generalize W.drew = W9 at hM ⊢
            go_upto_region 12 with         (first
          | go_skip
          | ((with_reducible refine at_box_ ?_); refine wpList_box_mem rfl _ _ rfl _ rfl hM ?_; clear hM; intro gb W hM; first | (simp only [List.nil_append] at hM) | (simp only [List.cons_append, List.nil_append] at hM))
          | ((with_reducible refine at_alloc_ (T := 87) ?_); refine wpList_alloc_mem rfl 87 rfl _ zv_Piece _ rfl hM ?_; clear hM; intro gb W hM; first | (simp only [List.nil_append] at hM) | (simp only [List.cons_append, List.nil_append] at hM))
          | ((with_reducible refine at_load_ (T := 87) ?_); refine at_wanted_ (by rfl) ?_; first | (refine wpList_loadg_mem (by go_simp) 87 _ rfl 0 _ _ _ hM rfl rfl _ Try.underlying87 rfl sz_Piece ?_) | (refine wpList_loadg_mem (by go_simp) 87 _ rfl 1 _ _ _ hM rfl rfl _ Try.underlying87 rfl sz_Piece ?_))
          | ((with_reducible refine at_store_ (T := 87) ?_); first | (refine wpList_store_mem rfl 87 _ _ rfl 0 _ _ _ _ hM rfl rfl rfl rfl sz_Piece rfl ?_; clear hM; intro W hM; simp only [zE] at hM) | (refine wpList_store_mem rfl 87 _ _ rfl 1 _ _ _ _ hM rfl rfl rfl rfl sz_Piece rfl ?_; clear hM; intro W hM; simp only [zF, zE] at hM))
          | ((with_reducible refine at_load_ ?_); refine at_wanted_ (by rfl) ?_; first | (refine lM 0 hM rfl rfl rfl (by first | rfl | assumption) ?_) | (refine lM 1 hM rfl rfl rfl (by first | rfl | assumption) ?_))
          | ((with_reducible refine at_store_ ?_); first | (refine sM 0 hM rfl rfl rfl ?_; clear hM; intro W hM; simp only [zF, zE] at hM) | (refine sM 1 hM rfl rfl rfl ?_; clear hM; intro W hM; simp only [zF, zE] at hM)))
            have cW := (HAH.out.kept hM.b).cell
            have lW := (HAH.out.kept hM.b).lt
            simp only [oqC] at cW
            go_wp2_with (first
              | go_skip
              | (go_at_call 68; go_must (refine (HE.out _ hM.b).mono ?_; rintro e W ⟨rfl, hb⟩); replace hM := hM.kept hb; clear hb)
              | (go_at_call 83; go_must (refine (HF.out _ hM.b).mono ?_; rintro e W ⟨rfl, hb⟩); replace hM := hM.kept hb; clear hb)
              | ((with_reducible refine at_box_ ?_); refine wpList_box_mem rfl _ _ rfl _ rfl hM ?_; clear hM; intro gb W hM; first | (simp only [List.nil_append] at hM) | (simp only [List.cons_append, List.nil_append] at hM))
              | ((with_reducible refine at_alloc_ (T := 87) ?_); refine wpList_alloc_mem rfl 87 rfl _ zv_Piece _ rfl hM ?_; clear hM; intro gb W hM; first | (simp only [List.nil_append] at hM) | (simp only [List.cons_append, List.nil_append] at hM))
              | ((with_reducible refine at_load_ (T := 87) ?_); refine at_wanted_ (by rfl) ?_; first | (refine wpList_loadg_mem (by go_simp) 87 _ rfl 0 _ _ _ hM rfl rfl _ Try.underlying87 rfl sz_Piece ?_) | (refine wpList_loadg_mem (by go_simp) 87 _ rfl 1 _ _ _ hM rfl rfl _ Try.underlying87 rfl sz_Piece ?_))
              | ((with_reducible refine at_store_ (T := 87) ?_); first | (refine wpList_store_mem rfl 87 _ _ rfl 0 _ _ _ _ hM rfl rfl rfl rfl sz_Piece rfl ?_; clear hM; intro W hM; simp only [zE] at hM) | (refine wpList_store_mem rfl 87 _ _ rfl 1 _ _ _ _ hM rfl rfl rfl rfl sz_Piece rfl ?_; clear hM; intro W hM; simp only [zF, zE] at hM))
              | ((with_reducible refine at_load_ ?_); refine at_wanted_ (by rfl) ?_; first | (refine lM 0 hM rfl rfl rfl (by first | rfl | assumption) ?_) | (refine lM 1 hM rfl rfl rfl (by first | rfl | assumption) ?_))
              | ((with_reducible refine at_store_ ?_); first | (refine sM 0 hM rfl rfl rfl ?_; clear hM; intro W hM; simp only [zF, zE] at hM) | (refine sM 1 hM rfl rfl rfl ?_; clear hM; intro W hM; simp only [zF, zE] at hM)))
            have hcz := hM.cells 0 rfl
            refine bodyPost_ret (v := .tuple #[.agg (cPiece (⟨q.cur, false, false, byteS ((q.l.drop i).take (j - i))⟩)).toArray, .bool true]) (by simp [results, Try.results62, go_sem, hcz, cPiece]) rfl ?_
            exact ⟨by rw [HP.out], hM.b⟩
        · have u4 : ((TO : Int) == F) = false := by simpa using hTe
          have hFB : FB = false := by rw [hfb]; rw [hcl, if_pos hlt, decide_eq_false hTe]; rfl
          obtain ⟨i, hi⟩ : ∃ i : Nat, q.cur - q.base = (i : Int) := ⟨(q.cur - q.base).toNat, by omega⟩
          obtain ⟨j, hj⟩ : ∃ j : Nat, TO - q.base = (j : Int) := ⟨(TO - q.base).toNat, by omega⟩
          obtain ⟨g2, off, cap, rfl, hW⟩ := hV.pos (by omega)
          have hcap := hW.le
          rw [if_pos hlt] at hbo
          have hbo2 : BO = (q.l.drop i).take (j - i) := by rw [hbo, show (q.cur - q.base).toNat = i by omega, show (TO - q.cur).toNat = j - i by omega]
          have HP := Lib.hid (show qPiece q q.cur lim mss = ⟨q.cur, false, false, byteS ((q.l.drop i).take (j - i))⟩ by rw [hp, hFB, hbo2])
          have hj2 : TO - q.base = (j : Int) := by omega
          have v1 : (i : Int) < (j : Int) := by omega
          have v2 : (j : Int) ≤ (cap : Int) := by omega
          have v3 : i ≤ j := by omega
          have v4 : j ≤ cap := by omega
          have v5 : i < cap := by omega
          have v9 : (cap = i) = False := eq_false (by omega)
          have wi : IntKind.i64.wrap (i : Int) = (i : Int) := by rw [IntKind.wrap_i64]; omega
          have wj : IntKind.i64.wrap (j : Int) = (j : Int) := by rw [IntKind.wrap_i64]; omega
          clear hTe
          have hj3 : j ≤ q.l.length := by omega
          have c0 := hA.cell
          simp only [oqC] at c0
          have hlt0 := hA.lt
          have HWW := Lib.hid hW
          have HAH := Lib.hid hA
          clear hbo hbo2 hj hA hV hW his hfb hFB k6 k7 hp hfd hFq ok
          go_enter Try.func62, Try.ntmps62
          go_upto_region 11 with         (first
          | go_skip
          | (go_at_call 68; go_must (refine (HE.out _ hM.b).mono ?_; rintro e W ⟨rfl, hb⟩); replace hM := hM.kept hb; clear hb)
          | (go_at_call 83; go_must (refine (HF.out _ hM.b).mono ?_; rintro e W ⟨rfl, hb⟩); replace hM := hM.kept hb; clear hb)
          | ((with_reducible refine at_box_ ?_); refine wpList_box_mem rfl _ _ rfl _ rfl hM ?_; clear hM; intro gb W hM; first | (simp only [List.nil_append] at hM) | (simp only [List.cons_append, List.nil_append] at hM))
          | ((with_reducible refine at_alloc_ (T := 87) ?_); refine wpList_alloc_mem rfl 87 rfl _ zv_Piece _ rfl hM ?_; clear hM; intro gb W hM; first | (simp only [List.nil_append] at hM) | (simp only [List.cons_append, List.nil_append] at hM))
          | ((with_reducible refine at_load_ (T := 87) ?_); refine at_wanted_ (by rfl) ?_; first | (refine wpList_loadg_mem (by go_simp) 87 _ rfl 0 _ _ _ hM rfl rfl _ Try.underlying87 rfl sz_Piece ?_) | (refine wpList_loadg_mem (by go_simp) 87 _ rfl 1 _ _ _ hM rfl rfl _ Try.underlying87 rfl sz_Piece ?_))
          | ((with_reducible refine at_store_ (T := 87) ?_); first | (refine wpList_store_mem rfl 87 _ _ rfl 0 _ _ _ _ hM rfl rfl rfl rfl sz_Piece rfl ?_; clear hM; intro W hM; simp only [zE] at hM) | (refine wpList_store_mem rfl 87 _ _ rfl 1 _ _ _ _ hM rfl rfl rfl rfl sz_Piece rfl ?_; clear hM; intro W hM; simp only [zF, zE] at hM))
          | ((with_reducible refine at_load_ ?_); refine at_wanted_ (by rfl) ?_; first | (refine lM 0 hM rfl rfl rfl (by first | rfl | assumption) ?_) | (refine lM 1 hM rfl rfl rfl (by first | rfl | assumption) ?_))
          | ((with_reducible refine at_store_ ?_); first | (refine sM 0 hM rfl rfl rfl ?_; clear hM; intro W hM; simp only [zF, zE] at hM) | (refine sM 1 hM rfl rfl rfl ?_; clear hM; intro W hM; simp only [zF, zE] at hM)))
          have cW := (HAH.out.kept hM.b).cell
          have lW := (HAH.out.kept hM.b).lt
          simp only [oqC] at cW
          have hcv := conv_sub W.drew g2 off cap _ i j q.l ((HWW.out.move (Nat.lt_of_lt_of_le HWW.out.lt hM.b.size) (hM.b.block g2 HWW.out.lt)) : WinAt W.drew 0 1 g2 off cap _ _) v3 hj3
          change ∀ c : Nat, (convert 104 9 (.slice (some ⟨g2, off + i, none⟩) (j - i) c)).run Try.prog { heap := W.heap, tape := W.tape, drawn := W.drawn + 1, os := W.os, output := W.output } = .ok (.string (byteS ((q.l.drop i).take (j - i)))) { heap := W.heap, tape := W.tape, drawn := W.drawn + 1, os := W.os, output := W.output } at hcv
          have v6 : (j : Int) ≤ (q.l.length : Int) := by omega
          have v7 : (0 : Int) ≤ (i : Int) := by omega
          have v8 : i < j := by omega
          refine wp_region_still_tail 19 (by kernel_rfl) (by kernel_rfl) ?_
          simp only [List.take_succ_cons, List.take_zero, List.drop_succ_cons, List.drop_zero]
          repeat still_step
          refine wpStill_conv (by rfl) _ _ _ rfl _ _ rfl (hcv _) ?_
          simp only [Act.put, zD, zE, zF]
          repeat still_step
          refine wpStill_nil ?_
          change wpList _ _ _ _ _ W.drew
          clear hcv cW lW c0 hlt0
          replace hM := hM.kept (Below.refl W.heap.size W).drew
          generalize W.drew = W9 at hM ⊢
          go_upto_region 12 with         (first
          | go_skip
          | ((with_reducible refine at_box_ ?_); refine wpList_box_mem rfl _ _ rfl _ rfl hM ?_; clear hM; intro gb W hM; first | (simp only [List.nil_append] at hM) | (simp only [List.cons_append, List.nil_append] at hM))
          | ((with_reducible refine at_alloc_ (T := 87) ?_); refine wpList_alloc_mem rfl 87 rfl _ zv_Piece _ rfl hM ?_; clear hM; intro gb W hM; first | (simp only [List.nil_append] at hM) | (simp only [List.cons_append, List.nil_append] at hM))
          | ((with_reducible refine at_load_ (T := 87) ?_); refine at_wanted_ (by rfl) ?_; first | (refine wpList_loadg_mem (by go_simp) 87 _ rfl 0 _ _ _ hM rfl rfl _ Try.underlying87 rfl sz_Piece ?_) | (refine wpList_loadg_mem (by go_simp) 87 _ rfl 1 _ _ _ hM rfl rfl _ Try.underlying87 rfl sz_Piece ?_))
          | ((with_reducible refine at_store_ (T := 87) ?_); first | (refine wpList_store_mem rfl 87 _ _ rfl 0 _ _ _ _ hM rfl rfl rfl rfl sz_Piece rfl ?_; clear hM; intro W hM; simp only [zE] at hM) | (refine wpList_store_mem rfl 87 _ _ rfl 1 _ _ _ _ hM rfl rfl rfl rfl sz_Piece rfl ?_; clear hM; intro W hM; simp only [zF, zE] at hM))
          | ((with_reducible refine at_load_ ?_); refine at_wanted_ (by rfl) ?_; first | (refine lM 0 hM rfl rfl rfl (by first | rfl | assumption) ?_) | (refine lM 1 hM rfl rfl rfl (by first | rfl | assumption) ?_))
          | ((with_reducible refine at_store_ ?_); first | (refine sM 0 hM rfl rfl rfl ?_; clear hM; intro W hM; simp only [zF, zE] at hM) | (refine sM 1 hM rfl rfl rfl ?_; clear hM; intro W hM; simp only [zF, zE] at hM)))
          have cW := (HAH.out.kept hM.b).cell
          have lW := (HAH.out.kept hM.b).lt
          simp only [oqC] at cW
          go_wp2_with (first
            | go_skip
            | (go_at_call 68; go_must (refine (HE.out _ hM.b).mono ?_; rintro e W ⟨rfl, hb⟩); replace hM := hM.kept hb; clear hb)
            | (go_at_call 83; go_must (refine (HF.out _ hM.b).mono ?_; rintro e W ⟨rfl, hb⟩); replace hM := hM.kept hb; clear hb)
            | ((with_reducible refine at_box_ ?_); refine wpList_box_mem rfl _ _ rfl _ rfl hM ?_; clear hM; intro gb W hM; first | (simp only [List.nil_append] at hM) | (simp only [List.cons_append, List.nil_append] at hM))
            | ((with_reducible refine at_alloc_ (T := 87) ?_); refine wpList_alloc_mem rfl 87 rfl _ zv_Piece _ rfl hM ?_; clear hM; intro gb W hM; first | (simp only [List.nil_append] at hM) | (simp only [List.cons_append, List.nil_append] at hM))
            | ((with_reducible refine at_load_ (T := 87) ?_); refine at_wanted_ (by rfl) ?_; first | (refine wpList_loadg_mem (by go_simp) 87 _ rfl 0 _ _ _ hM rfl rfl _ Try.underlying87 rfl sz_Piece ?_) | (refine wpList_loadg_mem (by go_simp) 87 _ rfl 1 _ _ _ hM rfl rfl _ Try.underlying87 rfl sz_Piece ?_))
            | ((with_reducible refine at_store_ (T := 87) ?_); first | (refine wpList_store_mem rfl 87 _ _ rfl 0 _ _ _ _ hM rfl rfl rfl rfl sz_Piece rfl ?_; clear hM; intro W hM; simp only [zE] at hM) | (refine wpList_store_mem rfl 87 _ _ rfl 1 _ _ _ _ hM rfl rfl rfl rfl sz_Piece rfl ?_; clear hM; intro W hM; simp only [zF, zE] at hM))
            | ((with_reducible refine at_load_ ?_); refine at_wanted_ (by rfl) ?_; first | (refine lM 0 hM rfl rfl rfl (by first | rfl | assumption) ?_) | (refine lM 1 hM rfl rfl rfl (by first | rfl | assumption) ?_))
            | ((with_reducible refine at_store_ ?_); first | (refine sM 0 hM rfl rfl rfl ?_; clear hM; intro W hM; simp only [zF, zE] at hM) | (refine sM 1 hM rfl rfl rfl ?_; clear hM; intro W hM; simp only [zF, zE] at hM)))
          have hcz := hM.cells 0 rfl
          refine bodyPost_ret (v := .tuple #[.agg (cPiece (⟨q.cur, false, false, byteS ((q.l.drop i).take (j - i))⟩)).toArray, .bool true]) (by simp [results, Try.results62, go_sem, hcz, cPiece]) rfl ?_
          exact ⟨by rw [HP.out], hM.b⟩
    · have u2 : decide (q.cur < TO) = false := by simpa using hlt
      have hk := k7.resolve_left hlt
      obtain ⟨hcF, hFB⟩ := hk
      subst hcF
      have hFB2 := hFB
      rw [hfb, if_neg hlt] at hFB2
      simp only [Bool.and_eq_true, decide_eq_true_eq] at hFB2
      obtain ⟨hcl, _, hFL⟩ := hFB2
      have u4 : ((q.cur : Int) == q.cur) = true := by simp
      have u5 : decide (q.cur < L) = true := by simpa using hFL
      have u6 : (if q.cur < TO then TO else q.cur) = q.cur := if_neg hlt
      rw [if_neg hlt] at hbo
      have HP := Lib.hid (show qPiece q q.cur lim mss = ⟨q.cur, false, true, ⟨#[]⟩⟩ by rw [hp, hFB, hbo]; rfl)
      have HAH := Lib.hid hA
      clear hbo hA hV his hfb hFB k6 k7 hp hfd hFq ok
      go_enter Try.func62, Try.ntmps62
      go_upto_region 12 with         (first
          | go_skip
          | (go_at_call 68; go_must (refine (HE.out _ hM.b).mono ?_; rintro e W ⟨rfl, hb⟩); replace hM := hM.kept hb; clear hb)
          | (go_at_call 83; go_must (refine (HF.out _ hM.b).mono ?_; rintro e W ⟨rfl, hb⟩); replace hM := hM.kept hb; clear hb)
          | ((with_reducible refine at_box_ ?_); refine wpList_box_mem rfl _ _ rfl _ rfl hM ?_; clear hM; intro gb W hM; first | (simp only [List.nil_append] at hM) | (simp only [List.cons_append, List.nil_append] at hM))
          | ((with_reducible refine at_alloc_ (T := 87) ?_); refine wpList_alloc_mem rfl 87 rfl _ zv_Piece _ rfl hM ?_; clear hM; intro gb W hM; first | (simp only [List.nil_append] at hM) | (simp only [List.cons_append, List.nil_append] at hM))
          | ((with_reducible refine at_load_ (T := 87) ?_); refine at_wanted_ (by rfl) ?_; first | (refine wpList_loadg_mem (by go_simp) 87 _ rfl 0 _ _ _ hM rfl rfl _ Try.underlying87 rfl sz_Piece ?_) | (refine wpList_loadg_mem (by go_simp) 87 _ rfl 1 _ _ _ hM rfl rfl _ Try.underlying87 rfl sz_Piece ?_))
          | ((with_reducible refine at_store_ (T := 87) ?_); first | (refine wpList_store_mem rfl 87 _ _ rfl 0 _ _ _ _ hM rfl rfl rfl rfl sz_Piece rfl ?_; clear hM; intro W hM; simp only [zE] at hM) | (refine wpList_store_mem rfl 87 _ _ rfl 1 _ _ _ _ hM rfl rfl rfl rfl sz_Piece rfl ?_; clear hM; intro W hM; simp only [zF, zE] at hM))
          | ((with_reducible refine at_load_ ?_); refine at_wanted_ (by rfl) ?_; first | (refine lM 0 hM rfl rfl rfl (by first | rfl | assumption) ?_) | (refine lM 1 hM rfl rfl rfl (by first | rfl | assumption) ?_))
          | ((with_reducible refine at_store_ ?_); first | (refine sM 0 hM rfl rfl rfl ?_; clear hM; intro W hM; simp only [zF, zE] at hM) | (refine sM 1 hM rfl rfl rfl ?_; clear hM; intro W hM; simp only [zF, zE] at hM)))
      have cW := (HAH.out.kept hM.b).cell
      have lW := (HAH.out.kept hM.b).lt
      simp only [oqC] at cW
      go_wp2_with (first
        | go_skip
        | (go_at_call 68; go_must (refine (HE.out _ hM.b).mono ?_; rintro e W ⟨rfl, hb⟩); replace hM := hM.kept hb; clear hb)
        | (go_at_call 83; go_must (refine (HF.out _ hM.b).mono ?_; rintro e W ⟨rfl, hb⟩); replace hM := hM.kept hb; clear hb)
        | ((with_reducible refine at_box_ ?_); refine wpList_box_mem rfl _ _ rfl _ rfl hM ?_; clear hM; intro gb W hM; first | (simp only [List.nil_append] at hM) | (simp only [List.cons_append, List.nil_append] at hM))
        | ((with_reducible refine at_alloc_ (T := 87) ?_); refine wpList_alloc_mem rfl 87 rfl _ zv_Piece _ rfl hM ?_; clear hM; intro gb W hM; first | (simp only [List.nil_append] at hM) | (simp only [List.cons_append, List.nil_append] at hM))
        | ((with_reducible refine at_load_ (T := 87) ?_); refine at_wanted_ (by rfl) ?_; first | (refine wpList_loadg_mem (by go_simp) 87 _ rfl 0 _ _ _ hM rfl rfl _ Try.underlying87 rfl sz_Piece ?_) | (refine wpList_loadg_mem (by go_simp) 87 _ rfl 1 _ _ _ hM rfl rfl _ Try.underlying87 rfl sz_Piece ?_))
        | ((with_reducible refine at_store_ (T := 87) ?_); first | (refine wpList_store_mem rfl 87 _ _ rfl 0 _ _ _ _ hM rfl rfl rfl rfl sz_Piece rfl ?_; clear hM; intro W hM; simp only [zE] at hM) | (refine wpList_store_mem rfl 87 _ _ rfl 1 _ _ _ _ hM rfl rfl rfl rfl sz_Piece rfl ?_; clear hM; intro W hM; simp only [zF, zE] at hM))
        | ((with_reducible refine at_load_ ?_); refine at_wanted_ (by rfl) ?_; first | (refine lM 0 hM rfl rfl rfl (by first | rfl | assumption) ?_) | (refine lM 1 hM rfl rfl rfl (by first | rfl | assumption) ?_))
        | ((with_reducible refine at_store_ ?_); first | (refine sM 0 hM rfl rfl rfl ?_; clear hM; intro W hM; simp only [zF, zE] at hM) | (refine sM 1 hM rfl rfl rfl ?_; clear hM; intro W hM; simp only [zF, zE] at hM)))
      have hcz := hM.cells 0 rfl
      refine bodyPost_ret (v := .tuple #[.agg (cPiece (⟨q.cur, false, true, ⟨#[]⟩⟩)).toArray, .bool true]) (by simp [results, Try.results62, go_sem, hcz, cPiece]) rfl ?_
      exact ⟨by rw [HP.out], hM.b⟩
end Go.Proofs.Ytfpifahkpkjfgaa
