/- What ConnStops needs, a part: CnQt. -/
import Derived.Deep.CutBlock
import Derived.Test.YtfpifahkpkjfgaaMConnStops37
import Derived.Test.YtfpifahkpkjfgaaMConnStops39
namespace Go.Proofs.Ytfpifahkpkjfgaa
open Go.RowKit Go.Lib
set_option linter.unusedVariables false
set_option linter.unusedSimpArgs false
set_option maxRecDepth 100000 in
set_option maxHeartbeats 8000000 in
theorem quiet_any {E : Nat → Prop} {w0 : World} (L : KPl) (x y : KPr) (m : List Res) (w : World) (hM0 : MemX E w0 w (prM L x m)) (hok : L.ok x) (n : Nat) (hn : n ≤ 9001) (hq : Qx n x y) :
    Calls Try.prog 24 #[.pointer (some ⟨L.gp, 0, none⟩)] w fun e w' => e = .returned (.bool true) ∧ ∃ L' : KPl, MemX E w0 w' (prM L' y m) ∧ KPl.ok L' y ∧ L'.gp = L.gp ∧ L'.ga = L.ga ∧ L'.gb = L.gb := by
  obtain ⟨gp, ga, gia, gwa, ka, gb, gib, gwb, kb, va⟩ := L
  have HQ := Lib.hid hq
  have HOK := Lib.hid hok
  have HN := Lib.hid hn
  have hM := hM0
  clear hM0 hq hok hn
  go_enter Try.func24, Try.ntmps24
  (go_wp2_with fail)
  go_loopg [3] n (fun gh kv wr => ∃ (j : Nat) (x : KPr) (gia gwa gib gwb : Nat) (ka kb : KPt) (va : Value), gh = n - j ∧ j ≤ n ∧ kv = .int .i64 j ∧ MemX E w0 wr (prM (⟨gp, ga, gia, gwa, ka, gb, gib, gwb, kb, va⟩ : KPl) x m) ∧ Hid (Qx (n - j) x y ∧ KPl.ok (⟨gp, ga, gia, gwa, ka, gb, gib, gwb, kb, va⟩ : KPl) x))
  case atStart => exact ⟨0, x, gia, gwa, gib, gwb, ka, kb, va, rfl, by omega, rfl, hM, Lib.hid ⟨HQ.out, HOK.out⟩⟩
  case round =>
    clear hM HOK HQ
    obtain ⟨j, x, gia, gwa, gib, gwb, ka, kb, va, hgj, hj, rfl, hM, HX⟩ := hrel
    have HGJ := Lib.hid hgj
    clear hgj
    obtain ⟨xa, xb, xp⟩ := x
    replace hM := (show MemX E w0 wr (prR gp ga gb va xp :: arR va xp.air :: (cnH ga gia gwa xa ka ++ (cnH gb gib gwb xb kb ++ m))) from hM)
    cases hair : xp.air with
    | nil =>
      have hxy := qx_nil HX.out.1 hair
      have HOK := Lib.hid HX.out.2
      rw [hair] at hM
      obtain ⟨Aa, qa, hva⟩ := (hM.row (f := cSeg) (rs := []) 1 rfl).form
      replace hva : va = .slice Aa 0 qa := hva
      subst hva
      rw [← hair] at hM
      have HXY := Lib.hid hxy
      clear hair hxy HX
      go_wp2_with (first | go_skip | ((with_reducible refine at_load_ ?_); refine at_wanted_ (by rfl) ?_; first | (refine lM 0 hM rfl rfl rfl rfl ?_)))
      refine bodyPost_ret (v := .bool true) (by simp [results, Try.results24, go_sem]) rfl ?_
      refine ⟨rfl, (⟨gp, ga, gia, gwa, ka, gb, gib, gwb, kb, (.slice Aa 0 qa)⟩ : KPl), ?_, ?_, rfl, rfl, rfl⟩
      · rw [← HXY.out]; exact hM
      · rw [← HXY.out]; exact HOK.out
    | cons g l =>
      obtain ⟨z, hlt, hqk, hnx⟩ := qx_cons HX.out.1 hair
      have HQK := Lib.hid hqk
      have HOK := Lib.hid (show KOk ka gia gwa xa.h ∧ KOk kb gib gwb xb.h from HX.out.2)
      have HNX := Lib.hid (show Qx (n - (j + 1)) z y from by rw [show n - (j + 1) = n - j - 1 by omega]; exact hnx)
      rw [hair] at hM
      obtain ⟨b0, of0, q0, hva, hwa⟩ := (hM.row (f := cSeg) (rs := g :: l) 1 rfl).pos (by simp)
      obtain ⟨n1, hn1⟩ : ∃ z, z = l.length := ⟨_, rfl⟩
      have HN1 := Lib.hid hn1
      rw [List.length_cons, ← hn1] at hva
      have HQ0 := Lib.hid (show n1 + 1 ≤ q0 from by have h := hwa.le; rw [List.length_cons, ← hn1] at h; exact h)
      subst hva
      have hr : (g :: l : List KSeg)[0]? = some g := rfl
      have HLT := Lib.hid hlt
      clear hlt hair hnx hwa HX hn1 hqk
      go_upto_region 5 with (first | go_skip | ((with_reducible refine at_load_ ?_); refine at_wanted_ (by rfl) ?_; first | (refine lM 0 hM rfl rfl rfl rfl ?_)) | ((with_reducible refine at_load_ (T := 33) ?_); refine wpList_load_row (f := cSeg) rfl _ _ rfl 1 0 _ hM rfl hr rfl cSeg_len _ Try.underlying33 rfl sz_Seg ?_) | ((with_reducible refine at_alloc_ (T := 33) ?_); refine wpList_alloc_mem rfl 33 rfl _ zv_Seg _ rfl hM ?_; clear hM; intro gs W hM; replace hM := cn_last hM) | ((with_reducible refine at_store_ (T := 33) ?_); refine wpList_store_mem rfl 33 _ _ rfl 0 _ _ _ (cSeg g) hM rfl rfl rfl rfl sz_Seg rfl ?_; clear hM; intro W hM; simp only [List.cons_append, zE] at hM))
      go_upto_region 6 with (first | go_skip | ((with_reducible refine at_load_ ?_); refine at_wanted_ (by rfl) ?_; first | (refine lM 1 hM rfl rfl rfl rfl ?_)) | ((with_reducible refine at_store_ ?_); refine sM 1 hM rfl rfl rfl ?_; clear hM; intro W hM; simp only [zF, zE, prR, pr6, pr7, pr8, pr9, pr10, pr11, pr12, pr13, pr14, pr15, pr16, pr17, pr18, pr19] at hM))
      replace hM := hM.cut (f := cSeg) (size := 13) (n := n1) 2 rfl HN1.out.symm (fun _ => rfl)
      replace hM := (show MemX E w0 W (atR gs 33 (cSeg g) :: prR gp ga gb (.slice (if q0 = 1 then some ⟨b0, of0, none⟩ else some ⟨b0, of0 + 13, none⟩) n1 (q0 - 1)) ({ xp with air := l } : KPa) :: arR (.slice (if q0 = 1 then some ⟨b0, of0, none⟩ else some ⟨b0, of0 + 13, none⟩) n1 (q0 - 1)) ({ xp with air := l } : KPa).air :: (cnH ga gia gwa xa ka ++ (cnH gb gib gwb xb kb ++ m))) from hM)
      obtain ⟨va2, hva2⟩ : ∃ z, z = (.slice (if q0 = 1 then some ⟨b0, of0, none⟩ else some ⟨b0, of0 + 13, none⟩) n1 (q0 - 1) : Value) := ⟨_, rfl⟩
      obtain ⟨xq, hxq⟩ : ∃ z, z = ({ xp with air := l } : KPa) := ⟨_, rfl⟩
      obtain ⟨t1, hq1, hq2, hq3, hq4, hs1, hs2, hs3, hs4, hs5, hs6, hs7⟩ := HQK.out
      dsimp only at hq2 hq3 hs1 hs2 hs3 hs4 hs5 hs6 hs7
      rw [← hva2] at hM ⊢
      rw [← hxq] at hM hs1 hs2 hs3 hs4 hs5 hs6 hs7
      clear hva2 hxq hr
      by_cases hto : g.ta = 2 ∧ g.tp = 80
      · have HEQ := Lib.hid (fun W => (by have h := eqB_End g.ta g.tp 2 80 W; rw [decide_eq_true hto] at h; exact h : (Op.equalIn 10000 29 (.agg #[.int .u32 g.ta, .int .i64 g.tp]) (.agg #[.int .u32 2, .int .i64 80])).run Try.prog W = .ok true W))
        have hcm : come ⟨xa, xb, xq⟩ g = ⟨xa, cIn xb g, xq⟩ := by unfold come; rw [if_pos hto]
        rw [hcm] at hs1 hs2 hs3 hs4 hs5 hs6 hs7
        dsimp only at hs1 hs2 hs3 hs4 hs5 hs6 hs7
        have HIN := Lib.hid (fun (W : World) (gs : Nat) (h : MemX E w0 W (atR gs 33 (cSeg g) :: prR gp ga gb va2 xq :: arR va2 xq.air :: (cnH ga gia gwa xa ka ++ (cnH gb gib gwb xb kb ++ m)))) => (inF (atR gs 33 (cSeg g) :: prR gp ga gb va2 xq :: arR va2 xq.air :: cnH ga gia gwa xa ka) m h HOK.out.2 hq3 hq1 g hq4 : Calls Try.prog 19 #[.pointer (some ⟨gb, 0, none⟩), .agg (cSeg g).toArray] W fun e W' => ∃ gi' gw' k', e = .returned (.int .i64 (cInE xb g)) ∧ MemX E w0 W' (atR gs 33 (cSeg g) :: prR gp ga gb va2 xq :: arR va2 xq.air :: (cnH ga gia gwa xa ka ++ (cnH gb gi' gw' (cIn xb g) k' ++ m))) ∧ KOk k' gi' gw' (cIn xb g).h))
        obtain ⟨ie, hie⟩ : ∃ z, z = cInE xb g := ⟨_, rfl⟩
        rw [← hie] at HIN
        have HS := Lib.hid (fun (W : World) (gi4 gw4 : Nat) (k4 : KPt) h hk => sends_any (E := E) (w0 := w0) (⟨gp, ga, gia, gwa, ka, gb, gi4, gw4, k4, va2⟩ : KPl) ⟨xa, cIn xb g, xq⟩ z m W h hk t1 hs1 hs2 hq1 hs5 hs3 hs4 hs6 hs7)
        clear hto hcm hie hs1 hs2 hs3 hs4 hs5 hs6 hs7 hq1 hq2 hq3 hq4
        go_upto_region 7 with (fail)
        refine wp_region_M [0,1] [] hM (by kernel_rfl) ?_
        clear hM
        intro wo hM
        refine tW 0 rfl ?_
        simp only [zz]
        refine tL 1 (v := .agg #[.int .u32 g.ta, .int .i64 g.tp]) rfl ⟨fun r hr => hM.get 0 hr, fun r hr => hM.get 1 hr, trivial⟩ (Or.inl ⟨by rfl, ?hy⟩) ?_
        case hy => (rintro W ⟨i0, i1, -⟩; have c0 := (show At W _ _ _ from i0 _ rfl).cell; have c1 := (show At W _ _ _ from i1 _ rfl).cell; (try simp only [cSeg,prC] at c0 c1); exact exec_loadw _ _ rfl gs 2 rfl [.int .u32 g.ta, .int .i64 g.tp] _ Try.underlying29 rfl sz_End (range_sub (cs := cSeg g) c0 2 _ rfl))
        simp only [zz]
        refine tW 2 rfl ?_
        simp only [zz]
        refine tW 3 rfl ?_
        simp only [zz]
        refine tW 4 rfl ?_
        simp only [zz]
        refine tW 5 rfl ?_
        simp only [zz]
        refine tL 6 (v := .agg #[.int .u32 2, .int .i64 80]) rfl ⟨fun r hr => hM.get 0 hr, fun r hr => hM.get 1 hr, trivial⟩ (Or.inl ⟨by rfl, ?hy⟩) ?_
        case hy => (rintro W ⟨i0, i1, -⟩; have c0 := (show At W _ _ _ from i0 _ rfl).cell; have c1 := (show At W _ _ _ from i1 _ rfl).cell; (try simp only [cSeg,prC] at c0 c1); exact exec_loadw _ _ rfl gp 4 rfl [.int .u32 2, .int .i64 80] _ Try.underlying29 rfl sz_End (range_sub (cs := prC ga gb va2 xq) c1 4 _ rfl))
        simp only [zz]
        refine tY 7 rfl ((.inl ⟨by rfl, fun w => exec_eqs _ _ _ _ rfl _ _ rfl rfl eg_End _ HEQ.out w⟩)) ?_
        simp only [zz]
        (try simp only [Bool.not_true, Bool.not_false])
        refine wpI_done (by kernel_rfl) ?_ _
        (try simp only [zz])
        go_upto_region 9 with (fail)
        refine wp_region_M [0,1] [] hM (by kernel_rfl) ?_
        clear hM
        intro wo hM
        refine tW 0 rfl ?_
        simp only [zz]
        refine tW 1 rfl ?_
        simp only [zz]
        refine tW 2 rfl ?_
        simp only [zz]
        refine tW 3 rfl ?_
        simp only [zz]
        refine tW 4 rfl ?_
        simp only [zz]
        refine tL 5 (v := ?_) rfl ⟨fun r hr => hM.get 0 hr, fun r hr => hM.get 1 hr, trivial⟩ (Or.inl ⟨by rfl, ?hy⟩) ?_
        case hy => (rintro W ⟨i0, i1, -⟩; have c0 := (show At W _ _ _ from i0 _ rfl).cell; have c1 := (show At W _ _ _ from i1 _ rfl).cell; (try simp only [cSeg,prC] at c0 c1); go_simp; (try with_reducible rfl))
        simp only [zz]
        refine tL 6 (v := .agg (cSeg g).toArray) rfl ⟨fun r hr => hM.get 0 hr, fun r hr => hM.get 1 hr, trivial⟩ (Or.inl ⟨by rfl, ?hy⟩) ?_
        case hy => (rintro W ⟨i0, i1, -⟩; have c0 := (show At W _ _ _ from i0 _ rfl).cell; have c1 := (show At W _ _ _ from i1 _ rfl).cell; (try simp only [cSeg,prC] at c0 c1); exact exec_loadw _ _ rfl gs 0 rfl (cSeg g) _ Try.underlying33 rfl sz_Seg (range_cells c0))
        simp only [zz]
        refine wpI_one (i := 7) rfl (by kernel_rfl) ?_
        (try simp only [zz])
        go_wp2_with (first
            | go_skip
            | ((go_at_call 19; refine (HIN.out _ gs hM).mono ?_; clear hM; rintro e W ⟨gi4, gw4, k4, rfl, hM, hK⟩; have HK4 := Lib.hid hK; clear hK; dsimp only)))
        refine contI_normal ⟨fun r hr => hM.get 0 hr, fun r hr => hM.get 1 hr, trivial⟩ ?_
        (try simp only [zz])
        refine wpI_done (by kernel_rfl) ?_ _
        (try simp only [zz])
        (go_upto_region 10 with (fail))
        replace hM := (show MemX E w0 W ([_] ++ (prR gp ga gb va2 xq :: arR va2 xq.air :: (cnH ga gia gwa xa ka ++ (cnH gb gi4 gw4 (cIn xb g) k4 ++ m)))) from hM).drop_
        have hj9 : ¬ (9000 : Int) < (j : Int) := by have := HN.out; have := HLT.out; omega
        have t9 : decide ((9000 : Int) < (j : Int)) = false := decide_eq_false hj9
        have hj9n : ¬ 9000 < j := by omega
        have t9n : decide (9000 < j) = false := decide_eq_false hj9n
        have hjb : (j : Int) + 1 ≤ 9223372036854775807 := by have := HN.out; omega
        go_wp2_with (first | go_skip | (go_at_call 21; refine (HS.out _ gi4 gw4 k4 hM ⟨HOK.out.1, HK4.out⟩).mono ?_; clear hM; rintro e W ⟨ka5, kb5, va5, rfl, hM, hok5⟩; have HOK5 := Lib.hid hok5; clear hok5; dsimp only at hM ⊢))
        go_roundg (n - (j + 1))
        case measure => have := HGJ.out; have := HLT.out; omega
        case rel => exact ⟨j + 1, z, gia, gwa, gi4, gw4, ka5, kb5, va5, rfl, by have := HLT.out; omega, by go_num, hM, Lib.hid ⟨HNX.out, HOK5.out⟩⟩
      · have HEQ := Lib.hid (fun W => (by have h := eqB_End g.ta g.tp 2 80 W; rw [decide_eq_false hto] at h; exact h : (Op.equalIn 10000 29 (.agg #[.int .u32 g.ta, .int .i64 g.tp]) (.agg #[.int .u32 2, .int .i64 80])).run Try.prog W = .ok false W))
        have hcm : come ⟨xa, xb, xq⟩ g = ⟨cIn xa g, xb, xq⟩ := by unfold come; rw [if_neg hto]
        rw [hcm] at hs1 hs2 hs3 hs4 hs5 hs6 hs7
        dsimp only at hs1 hs2 hs3 hs4 hs5 hs6 hs7
        have HIN := Lib.hid (fun (W : World) (gs : Nat) (h : MemX E w0 W (atR gs 33 (cSeg g) :: prR gp ga gb va2 xq :: arR va2 xq.air :: (cnH ga gia gwa xa ka ++ (cnH gb gib gwb xb kb ++ m)))) => (inF [atR gs 33 (cSeg g), prR gp ga gb va2 xq, arR va2 xq.air] (cnH gb gib gwb xb kb ++ m) h HOK.out.1 hq2 hq1 g hq4 : Calls Try.prog 19 #[.pointer (some ⟨ga, 0, none⟩), .agg (cSeg g).toArray] W fun e W' => ∃ gi' gw' k', e = .returned (.int .i64 (cInE xa g)) ∧ MemX E w0 W' (atR gs 33 (cSeg g) :: prR gp ga gb va2 xq :: arR va2 xq.air :: (cnH ga gi' gw' (cIn xa g) k' ++ (cnH gb gib gwb xb kb ++ m))) ∧ KOk k' gi' gw' (cIn xa g).h))
        obtain ⟨ie, hie⟩ : ∃ z, z = cInE xa g := ⟨_, rfl⟩
        rw [← hie] at HIN
        have HS := Lib.hid (fun (W : World) (gi4 gw4 : Nat) (k4 : KPt) h hk => sends_any (E := E) (w0 := w0) (⟨gp, ga, gi4, gw4, k4, gb, gib, gwb, kb, va2⟩ : KPl) ⟨cIn xa g, xb, xq⟩ z m W h hk t1 hs1 hs2 hq1 hs5 hs3 hs4 hs6 hs7)
        clear hto hcm hie hs1 hs2 hs3 hs4 hs5 hs6 hs7 hq1 hq2 hq3 hq4
        go_upto_region 7 with (fail)
        refine wp_region_M [0,1] [] hM (by kernel_rfl) ?_
        clear hM
        intro wo hM
        refine tW 0 rfl ?_
        simp only [zz]
        refine tL 1 (v := .agg #[.int .u32 g.ta, .int .i64 g.tp]) rfl ⟨fun r hr => hM.get 0 hr, fun r hr => hM.get 1 hr, trivial⟩ (Or.inl ⟨by rfl, ?hy⟩) ?_
        case hy => (rintro W ⟨i0, i1, -⟩; have c0 := (show At W _ _ _ from i0 _ rfl).cell; have c1 := (show At W _ _ _ from i1 _ rfl).cell; (try simp only [cSeg,prC] at c0 c1); exact exec_loadw _ _ rfl gs 2 rfl [.int .u32 g.ta, .int .i64 g.tp] _ Try.underlying29 rfl sz_End (range_sub (cs := cSeg g) c0 2 _ rfl))
        simp only [zz]
        refine tW 2 rfl ?_
        simp only [zz]
        refine tW 3 rfl ?_
        simp only [zz]
        refine tW 4 rfl ?_
        simp only [zz]
        refine tW 5 rfl ?_
        simp only [zz]
        refine tL 6 (v := .agg #[.int .u32 2, .int .i64 80]) rfl ⟨fun r hr => hM.get 0 hr, fun r hr => hM.get 1 hr, trivial⟩ (Or.inl ⟨by rfl, ?hy⟩) ?_
        case hy => (rintro W ⟨i0, i1, -⟩; have c0 := (show At W _ _ _ from i0 _ rfl).cell; have c1 := (show At W _ _ _ from i1 _ rfl).cell; (try simp only [cSeg,prC] at c0 c1); exact exec_loadw _ _ rfl gp 4 rfl [.int .u32 2, .int .i64 80] _ Try.underlying29 rfl sz_End (range_sub (cs := prC ga gb va2 xq) c1 4 _ rfl))
        simp only [zz]
        refine tY 7 rfl ((.inl ⟨by rfl, fun w => exec_eqs _ _ _ _ rfl _ _ rfl rfl eg_End _ HEQ.out w⟩)) ?_
        simp only [zz]
        (try simp only [Bool.not_true, Bool.not_false])
        refine wpI_done (by kernel_rfl) ?_ _
        (try simp only [zz])
        go_upto_region 9 with (fail)
        refine wp_region_M [0,1] [] hM (by kernel_rfl) ?_
        clear hM
        intro wo hM
        refine tW 0 rfl ?_
        simp only [zz]
        refine tW 1 rfl ?_
        simp only [zz]
        refine tW 2 rfl ?_
        simp only [zz]
        refine tW 3 rfl ?_
        simp only [zz]
        refine tW 4 rfl ?_
        simp only [zz]
        refine tL 5 (v := ?_) rfl ⟨fun r hr => hM.get 0 hr, fun r hr => hM.get 1 hr, trivial⟩ (Or.inl ⟨by rfl, ?hy⟩) ?_
        case hy => (rintro W ⟨i0, i1, -⟩; have c0 := (show At W _ _ _ from i0 _ rfl).cell; have c1 := (show At W _ _ _ from i1 _ rfl).cell; (try simp only [cSeg,prC] at c0 c1); go_simp; (try with_reducible rfl))
        simp only [zz]
        refine tL 6 (v := .agg (cSeg g).toArray) rfl ⟨fun r hr => hM.get 0 hr, fun r hr => hM.get 1 hr, trivial⟩ (Or.inl ⟨by rfl, ?hy⟩) ?_
        case hy => (rintro W ⟨i0, i1, -⟩; have c0 := (show At W _ _ _ from i0 _ rfl).cell; have c1 := (show At W _ _ _ from i1 _ rfl).cell; (try simp only [cSeg,prC] at c0 c1); exact exec_loadw _ _ rfl gs 0 rfl (cSeg g) _ Try.underlying33 rfl sz_Seg (range_cells c0))
        simp only [zz]
        refine wpI_one (i := 7) rfl (by kernel_rfl) ?_
        (try simp only [zz])
        go_wp2_with (first
            | go_skip
            | ((go_at_call 19; refine (HIN.out _ gs hM).mono ?_; clear hM; rintro e W ⟨gi4, gw4, k4, rfl, hM, hK⟩; have HK4 := Lib.hid hK; clear hK; dsimp only)))
        refine contI_normal ⟨fun r hr => hM.get 0 hr, fun r hr => hM.get 1 hr, trivial⟩ ?_
        (try simp only [zz])
        refine wpI_done (by kernel_rfl) ?_ _
        (try simp only [zz])
        (go_upto_region 10 with (fail))
        replace hM := (show MemX E w0 W ([_] ++ (prR gp ga gb va2 xq :: arR va2 xq.air :: (cnH ga gi4 gw4 (cIn xa g) k4 ++ (cnH gb gib gwb xb kb ++ m)))) from hM).drop_
        have hj9 : ¬ (9000 : Int) < (j : Int) := by have := HN.out; have := HLT.out; omega
        have t9 : decide ((9000 : Int) < (j : Int)) = false := decide_eq_false hj9
        have hj9n : ¬ 9000 < j := by omega
        have t9n : decide (9000 < j) = false := decide_eq_false hj9n
        have hjb : (j : Int) + 1 ≤ 9223372036854775807 := by have := HN.out; omega
        go_wp2_with (first | go_skip | (go_at_call 21; refine (HS.out _ gi4 gw4 k4 hM ⟨HK4.out, HOK.out.2⟩).mono ?_; clear hM; rintro e W ⟨ka5, kb5, va5, rfl, hM, hok5⟩; have HOK5 := Lib.hid hok5; clear hok5; dsimp only at hM ⊢))
        go_roundg (n - (j + 1))
        case measure => have := HGJ.out; have := HLT.out; omega
        case rel => exact ⟨j + 1, z, gi4, gw4, gib, gwb, ka5, kb5, va5, rfl, by have := HLT.out; omega, by go_num, hM, Lib.hid ⟨HNX.out, HOK5.out⟩⟩
end Go.Proofs.Ytfpifahkpkjfgaa
