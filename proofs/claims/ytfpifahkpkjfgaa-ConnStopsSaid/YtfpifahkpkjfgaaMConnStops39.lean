/- What ConnStops needs, a part: CnQb. -/
import Derived.Deep.CutBlock
import Derived.Test.YtfpifahkpkjfgaaMConnStops38
namespace Go.Proofs.Ytfpifahkpkjfgaa
open Go.RowKit Go.Lib
set_option linter.unusedVariables false
set_option linter.unusedSimpArgs false
set_option linter.unusedSectionVars false
set_option maxRecDepth 100000
set_option maxRecDepth 100000 in
set_option maxHeartbeats 8000000 in
theorem sends_any {E : Nat → Prop} {w0 : World} (L : KPl) (x y : KPr) (m : List Res) (w : World) (hM0 : MemX E w0 w (prM L x m)) (hok : L.ok x) (t : Int) (ha : CI x.a t) (hb : CI x.b t) (ht : t ≤ 1000000000000) (hs : sends x = some y) (hp : POk x.p) (hair : x.p.air.length ≤ 1000000000)
    (hsa : ∀ g ∈ (cOut x.a).2, SegOk g) (hsb : ∀ g ∈ (cOut x.b).2, SegOk g) :
    Calls Try.prog 21 #[.pointer (some ⟨L.gp, 0, none⟩)] w fun e w' => ∃ ka kb va, e = .returned (.bool true) ∧ MemX E w0 w' (prM { L with ka := ka, kb := kb, va := va } y m) ∧ KPl.ok { L with ka := ka, kb := kb, va := va } y := by
  obtain ⟨gp, ga, gia, gwa, ka, gb, gib, gwb, kb, va⟩ := L
  obtain ⟨hka, hkb⟩ := hok
  obtain ⟨xa, xb, xp⟩ := x
  obtain ⟨ya, yb, p2⟩ := y
  have h1 : ∃ p1, sdList true xp (cOut xa).2 = some p1 ∧ sdList false p1 (cOut xb).2 = some p2 ∧ (cOut xa).1 = ya ∧ (cOut xb).1 = yb := by
    unfold sends at hs
    dsimp only at hs
    cases e1 : sdList true xp (cOut xa).2 with
    | none => rw [e1] at hs; cases hs
    | some p1 =>
      rw [e1] at hs
      dsimp only at hs
      cases e2 : sdList false p1 (cOut xb).2 with
      | none => rw [e2] at hs; cases hs
      | some p3 =>
        rw [e2] at hs
        injection hs with hs
        injection hs with h1 h2 h3
        exact ⟨p1, rfl, by rw [e2, h3], h1, h2⟩
  obtain ⟨p1, hs1, hs2, hea, heb⟩ := h1
  clear hs
  dsimp only at ha hb hp hair hsa hsb hka hkb
  have hp1 := sdList_bd true 1000000000 (by decide) _ _ _ hs1 hp hair
  have HSD0 := Lib.hid hs1
  have HSD1 := Lib.hid hs2
  have HEA := Lib.hid hea
  have HEB := Lib.hid heb
  have HCA := Lib.hid ha
  have HCB := Lib.hid hb
  have HT := Lib.hid ht
  have HP0 := Lib.hid (show POk xp ∧ xp.air.length ≤ 1000000000 from ⟨hp, hair⟩)
  have HP1 := Lib.hid hp1
  have HSEGA := Lib.hid hsa
  have HSEGB := Lib.hid hsb
  have HKA := Lib.hid hka
  have HKB := Lib.hid hkb
  clear hs1 hs2 hea heb ha hb ht hp hair hp1 hsa hsb hka hkb
  have hM : MemX E w0 w (prR gp ga gb va xp :: arR va xp.air :: (cnH ga gia gwa xa ka ++ (cnH gb gib gwb xb kb ++ m))) := hM0
  clear hM0
  have hX0 : ∀ W : World, (Instr.index 45 (.agg #[.pointer (some ⟨ga, 0, none⟩), .pointer (some ⟨gb, 0, none⟩)]) (.int .i64 0)).run Try.prog W = .ok (.pointer (some ⟨ga, 0, none⟩)) W := fun W => by kernel_rfl
  have hX1 : ∀ W : World, (Instr.index 45 (.agg #[.pointer (some ⟨ga, 0, none⟩), .pointer (some ⟨gb, 0, none⟩)]) (.int .i64 1)).run Try.prog W = .ok (.pointer (some ⟨gb, 0, none⟩)) W := fun W => by kernel_rfl
  go_enter Try.func21, Try.ntmps21
  go_upto_region 2 with (first | go_skip | ((with_reducible refine at_load_ (T := 45) ?_); refine wpList_loads_mem (by go_simp) 45 _ rfl 0 _ 0 _ _ [.pointer (some ⟨ga, 0, none⟩), .pointer (some ⟨gb, 0, none⟩)] hM rfl rfl rfl _ Try.underlying45 rfl (by kernel_rfl) ?_))
  (go_wp2_with fail)
  go_loopg [12] 2 (fun gh v wr => ∃ (t : Int) (a b : KCn) (p : KPa) (ka kb : KPt) (va : Value), gh = (2 - t).toNat ∧ v = .int .i64 t ∧ ((t = 0 ∧ xa = a ∧ xb = b ∧ xp = p) ∨ (t = 1 ∧ ya = a ∧ xb = b ∧ p1 = p) ∨ (t = 2 ∧ ya = a ∧ yb = b ∧ p2 = p)) ∧ MemX E w0 wr (prR gp ga gb va p :: arR va p.air :: (cnH ga gia gwa a ka ++ (cnH gb gib gwb b kb ++ m))) ∧ Hid (KOk ka gia gwa a.h ∧ KOk kb gib gwb b.h))
  case atStart => exact ⟨0, xa, xb, xp, ka, kb, va, rfl, rfl, .inl ⟨rfl, rfl, rfl, rfl⟩, hM, Lib.hid ⟨HKA.out, HKB.out⟩⟩
  case round =>
    clear hM HKA HKB
    obtain ⟨t, a, b, p, ka, kb, va, hgh, rfl, ht3, hM, HK⟩ := hrel
    have HGH := Lib.hid hgh
    have HKA := Lib.hid HK.out.1
    have HKB := Lib.hid HK.out.2
    clear hgh HK
    rcases ht3 with ⟨rfl, rfl, rfl, rfl⟩ | ⟨rfl, rfl, rfl, rfl⟩ | ⟨rfl, rfl, rfl, rfl⟩
    · have HPP := Lib.hid HP0.out
      obtain ⟨a, ha⟩ : ∃ z, z = xa := ⟨_, rfl⟩
      obtain ⟨b, hb⟩ : ∃ z, z = xb := ⟨_, rfl⟩
      obtain ⟨p, hp⟩ : ∃ z, z = xp := ⟨_, rfl⟩
      rw [← ha] at hM HCA HSD0 HEA HSEGA HKA
      rw [← hb] at hM HKB
      rw [← hp] at hM HSD0 HPP
      have HXB := Lib.hid (show xb = b from hb.symm)
      clear ha hb hp
      have HO := Lib.hid (fun (W : World) (ka kb : KPt) (va : Value) (h : MemX E w0 W (prR gp ga gb va p :: arR va p.air :: (cnH ga gia gwa a ka ++ (cnH gb gib gwb b kb ++ m)))) (hk : KOk ka gia gwa a.h) => (by
        have h2 := outF [prR gp ga gb va p, arR va p.air] (cnH gb gib gwb b kb ++ m) h hk HCA.out (by have := HT.out; omega)
        exact h2 : Calls Try.prog 15 #[.pointer (some ⟨ga, 0, none⟩)] W fun e W' => ∃ v k', e = .returned v ∧ MemX E w0 W' (rowR 13 cSeg v (cOut a).2 :: prR gp ga gb va p :: arR va p.air :: (cnH ga gia gwa (cOut a).1 k' ++ (cnH gb gib gwb b kb ++ m))) ∧ KOk k' gia gwa (cOut a).1.h))
      obtain ⟨l, hl⟩ : ∃ z, z = (cOut a).2 := ⟨_, rfl⟩
      obtain ⟨c1, hc1⟩ : ∃ z, z = (cOut a).1 := ⟨_, rfl⟩
      have HSG := Lib.hid (show ∀ g ∈ l, SegOk g from by rw [hl]; exact HSEGA.out)
      have HSD := Lib.hid (show sdList true p l = some p1 from by rw [hl]; exact HSD0.out)
      have HCE := Lib.hid (show c1 = ya from by rw [hc1]; exact HEA.out)
      have HPO := Lib.hid (HPP.out)
      rw [← hl, ← hc1] at HO
      clear hl hc1
      obtain ⟨nl, hnl⟩ : ∃ z, z = l.length := ⟨_, rfl⟩
      have HNL := Lib.hid hnl
      clear hnl
      go_wp2_with (first | go_skip | (go_at_call 15; refine (HO.out _ ka kb va hM HKA.out).mono ?_; clear hM HKA; rintro e W ⟨v, k1, rfl, hM, hK⟩; have HK1 := Lib.hid hK; clear hK; obtain ⟨Al, ql, hv⟩ := (hM.row (f := cSeg) (rs := l) 0 rfl).form; rw [← HNL.out] at hv; subst hv; dsimp only))
      clear HO
      go_loopg [19] nl (fun gh v wr => ∃ (j : Nat) (q : KPa) (va : Value), gh = nl - j ∧ j ≤ nl ∧ v = .int .i64 j ∧ MemX E w0 wr (rowR 13 cSeg (.slice Al nl ql) l :: prR gp ga gb va q :: arR va q.air :: (cnH ga gia gwa c1 k1 ++ (cnH gb gib gwb b kb ++ m))) ∧ Hid (sdList true q (l.drop j) = some p1 ∧ POk q ∧ q.air.length ≤ 1000000000))
      case atStart => exact ⟨0, p, va, by omega, by omega, rfl, hM, Lib.hid ⟨HSD.out, HPO.out⟩⟩
      case round =>
        clear hM
        obtain ⟨j, q, va, hgj, hj, rfl, hM, HQ⟩ := hrel
        have HGJ := Lib.hid hgj
        clear hgj
        by_cases hlt : j < nl
        · obtain ⟨g, hr⟩ : ∃ x, l[j]? = some x := ⟨l[j]'(by rw [← HNL.out]; exact hlt), List.getElem?_eq_getElem _⟩
          have hgs := HSG.out g (List.mem_of_getElem? hr)
          have hdr : l.drop j = g :: l.drop (j + 1) := by
            obtain ⟨h1, h2⟩ := List.getElem?_eq_some_iff.1 hr
            rw [List.drop_eq_getElem_cons h1, h2]
          have hsd := HQ.out.1
          rw [hdr] at hsd
          unfold sdList at hsd
          by_cases hok : sdOk true q g = true
          · rw [if_pos hok] at hsd
            have HNX := Lib.hid hsd
            have HOK := Lib.hid hok
            have hg1 : g.fa = 1 ∧ g.fp = 40000 := by
              unfold sdOk at hok
              simp only [Bool.and_eq_true, decide_eq_true_eq] at hok
              exact hok.1.1
            have hg2 : g.ta = 2 ∧ g.tp = 80 := by
              unfold sdOk at hok
              simp only [Bool.and_eq_true, decide_eq_true_eq] at hok
              exact hok.1.2.1
            have hg3 : tcChk g = 0 := by
              unfold sdOk at hok
              simp only [Bool.and_eq_true, decide_eq_true_eq] at hok
              exact hok.1.2.2
            have hg4 := sdOk_t hok
            have HCK := Lib.hid (fun W => (by have h := tcCheck_any g W hgs; rw [hg3] at h; exact h : Calls Try.prog 47 #[.agg (cSeg g).toArray] W fun e w' => e = .returned (.int .i64 0) ∧ Below W.heap.size W w'))
            have HG12 := Lib.hid (And.intro hg1 hg2)
            have HG4 := Lib.hid hg4
            have HGS := Lib.hid hgs
            clear hg1 hg2 hg3 hg4 hok hdr hsd hgs
            obtain ⟨gr, offr, cr', hv, hwa⟩ := (hM.row (f := cSeg) (rs := l) 0 rfl).pos (by rw [← HNL.out]; omega)
            have HNB := Lib.hid (show (nl : Int) ≤ 9223372036854775807 from by have h1 := hwa.le; have h2 := hwa.mx; rw [← HNL.out] at h1; simp only [maxLen] at h2; omega)
            clear hwa
            injection hv with hv1 hv3 hv2
            clear hv3
            subst hv1 hv2
            go_upto_region 7 with (first | go_skip | ((with_reducible refine at_load_ (T := 33) ?_); refine wpList_load_row (f := cSeg) rfl _ _ rfl 0 _ _ hM rfl hr rfl cSeg_len _ Try.underlying33 rfl sz_Seg ?_) | ((with_reducible refine at_alloc_ (T := 33) ?_); refine wpList_alloc_mem rfl 33 rfl _ zv_Seg _ rfl hM ?_; clear hM; intro gs W hM; replace hM := cn_last hM) | ((with_reducible refine at_store_ (T := 33) ?_); refine wpList_store_mem rfl 33 _ _ rfl 0 _ _ _ (cSeg g) hM rfl rfl rfl rfl sz_Seg rfl ?_; clear hM; intro W hM; simp only [List.cons_append, zE] at hM))
            refine sd7a E w0 gp ga gb gs va q g _ _ _ _ _ hM ?hq0 HG12.out.1 HG12.out.2 HCK ?_
            case hq0 => exact Lib.hid (by intro _ d _ _ _ h; cases d <;> exact h)
            clear hM
            intro v23 v24 v25 v26 v27 v28 v29 v30 v31 v32 v33 v34 v35 v36 v37 v38 v39 v40 v41 v42 v43 v44 v45 v46 v47 W hM
            go_upto_region 9 with (fail)
            go_cut [77] (fun v W => v = .bool false ∧ MemX E w0 W (atR gs 33 (cSeg g) :: rowR 13 cSeg (.slice (some ⟨gr, offr, none⟩) nl ql) l :: prR gp ga gb va q :: arR va q.air :: (cnH ga gia gwa c1 k1 ++ (cnH gb gib gwb b kb ++ m))))
            case first =>
              cases ht : q.t0 with
              | false =>
                have HTO := Lib.hid ht
                clear ht
                refine sd9a0 E w0 gp ga gb gs va q g _ _ _ _ _ hM ?hq0 HTO ?_
                case hq0 => exact Lib.hid (by intro _ d _ _ _ h; cases d <;> exact h)
                clear hM
                intro v49 v50 v51 v52 v53 v54 v55 v56 v57 v58 v59 v60 v61 v62 v63 v64 v65 v66 v67 v68 v69 v70 v71 v72 v73 v74 v75 v76 W hM
                go_wp2_with fail
                go_meet
                case rel => exact ⟨rfl, hM⟩
              | true =>
                have HTO := Lib.hid ht
                have hg5 := HG4.out
                rw [ht, Bool.true_and] at hg5
                clear ht
                by_cases hz : 0 < (g.b.size : Int)
                · rw [decide_eq_true hz, Bool.true_and] at hg5
                  have HZ := Lib.hid hz
                  have HLS := Lib.hid (fun W => less_no q.e0 g.seq g.b.size hg5 W)
                  clear hg5 hz
                  refine sd9a1 E w0 gp ga gb gs va q g _ _ _ _ _ hM ?hq0 HTO HZ HLS ?_
                  case hq0 => exact Lib.hid (by intro _ d _ _ _ h; cases d <;> exact h)
                  clear hM
                  intro v49 v50 v51 v52 v53 v54 v55 v56 v57 v58 v59 v60 v61 v62 v63 v64 v65 v66 v67 v68 v69 v70 v71 v72 v73 v74 v75 v76 W hM
                  go_wp2_with fail
                  go_meet
                  case rel => exact ⟨rfl, hM⟩
                · have HZ := Lib.hid hz
                  clear hg5 hz
                  refine sd9a2 E w0 gp ga gb gs va q g _ _ _ _ _ hM ?hq0 HTO HZ ?_
                  case hq0 => exact Lib.hid (by intro _ d _ _ _ h; cases d <;> exact h)
                  clear hM
                  intro v49 v50 v51 v52 v53 v54 v55 v56 v57 v58 v59 v60 v61 v62 v63 v64 v65 v66 v67 v68 v69 v70 v71 v72 v73 v74 v75 v76 W hM
                  go_wp2_with fail
                  go_meet
                  case rel => exact ⟨rfl, hM⟩
            case rest =>
              clear hM
              obtain ⟨rfl, hM⟩ := hcut
              go_upto_region 11 with (fail)
              obtain ⟨bb, hbb⟩ : ∃ z, z = (g.has && !g.rst) := ⟨_, rfl⟩
              obtain ⟨q1, hq1⟩ : ∃ z, z = (sdTell true q g) := ⟨_, rfl⟩
              have HBB := Lib.hid hbb
              have HTL := Lib.hid hq1
              clear hbb hq1
              go_cut [84] (fun v W => v = .bool bb ∧ MemX E w0 W (atR gs 33 (cSeg g) :: rowR 13 cSeg (.slice (some ⟨gr, offr, none⟩) nl ql) l :: prR gp ga gb va q :: arR va q.air :: (cnH ga gia gwa c1 k1 ++ (cnH gb gib gwb b kb ++ m))))
              case first =>
                cases h1 : g.has with
                | false =>
                  have HF7 := Lib.hid (show (cSeg g)[7]? = some (.bool false) from by rw [← h1]; rfl)
                  have HB2 := Lib.hid (show bb = false from by rw [HBB.out, h1]; rfl)
                  clear h1
                  go_wp2_with (first | go_skip | ((with_reducible refine at_load_ ?_); refine at_wanted_ (by rfl) ?_; refine lM 0 hM rfl rfl rfl (by first | exact HF7.out | rfl) ?_))
                  go_meet
                  case rel => exact ⟨by rw [HB2.out], hM⟩
                | true =>
                  have HF7 := Lib.hid (show (cSeg g)[7]? = some (.bool true) from by rw [← h1]; rfl)
                  cases h2 : g.rst with
                  | false =>
                    have HF9 := Lib.hid (show (cSeg g)[9]? = some (.bool false) from by rw [← h2]; rfl)
                    have HB2 := Lib.hid (show bb = true from by rw [HBB.out, h1, h2]; rfl)
                    clear h1 h2
                    go_wp2_with (first | go_skip | ((with_reducible refine at_load_ ?_); refine at_wanted_ (by rfl) ?_; refine lM 0 hM rfl rfl rfl (by first | exact HF7.out | exact HF9.out | rfl) ?_))
                    go_meet
                    case rel => exact ⟨by rw [HB2.out], hM⟩
                  | true =>
                    have HF9 := Lib.hid (show (cSeg g)[9]? = some (.bool true) from by rw [← h2]; rfl)
                    have HB2 := Lib.hid (show bb = false from by rw [HBB.out, h1, h2]; rfl)
                    clear h1 h2
                    go_wp2_with (first | go_skip | ((with_reducible refine at_load_ ?_); refine at_wanted_ (by rfl) ?_; refine lM 0 hM rfl rfl rfl (by first | exact HF7.out | exact HF9.out | rfl) ?_))
                    go_meet
                    case rel => exact ⟨by rw [HB2.out], hM⟩
              case rest =>
                clear hM
                obtain ⟨rfl, hM⟩ := hcut
                go_upto_if 84 with (fail)
                go_cut [7] (fun v W => MemX E w0 W (atR gs 33 (cSeg g) :: rowR 13 cSeg (.slice (some ⟨gr, offr, none⟩) nl ql) l :: prR gp ga gb va q1 :: arR va q1.air :: (cnH ga gia gwa c1 k1 ++ (cnH gb gib gwb b kb ++ m))))
                case first =>
                  cases bb with
                  | false =>
                    have HQ1 := Lib.hid (show q1 = q from by
                      have h := HBB.out
                      rw [HTL.out, sdTell_t, if_neg (fun hc => by rw [hc.1, hc.2.1] at h; cases h)])
                    go_wp2_with fail
                    go_meet
                    case rel => (rw [HQ1.out]; exact hM)
                  | true =>
                    have hb2 : g.has = true ∧ g.rst = false := by
                      have h := HBB.out
                      cases h1 : g.has <;> cases h2 : g.rst <;> rw [h1, h2] at h <;> first | exact ⟨rfl, rfl⟩ | cases h
                    have HB2 := Lib.hid hb2
                    clear hb2
                    go_upto_region 12 with (fail)
                    go_cut [7] (fun v W => v = .int .u32 (sdEdge g) ∧ MemX E w0 W (atR gs 33 (cSeg g) :: rowR 13 cSeg (.slice (some ⟨gr, offr, none⟩) nl ql) l :: prR gp ga gb va q :: arR va q.air :: (cnH ga gia gwa c1 k1 ++ (cnH gb gib gwb b kb ++ m))))
                    case first =>
                      go_wp2_with (first | go_skip | ((with_reducible refine at_load_ ?_); refine at_wanted_ (by rfl) ?_; first | (refine lM 0 hM rfl rfl rfl rfl ?_)))
                      go_meet
                      case rel => exact ⟨rfl, hM⟩
                    case rest =>
                      clear hM
                      obtain ⟨rfl, hM⟩ := hcut
                      have HLS := Lib.hid (fun W => Less_any q.e1 (sdEdge g) W HQ.out.2.1.e1.1 HQ.out.2.1.e1.2 (u32_bd _).1 (u32_bd _).2)
                      go_upto_region 13 with (fail)
                      cases ht : q.t1 with
                      | false =>
                        have HTF := Lib.hid (show (prC ga gb va q)[18]? = some (.bool false) from by rw [← ht]; rfl)
                        have HQ1 := Lib.hid (show q1 = { q with e1 := sdEdge g, t1 := true } from by rw [HTL.out, sdTell_t, if_pos ⟨HB2.out.1, HB2.out.2, .inl ht⟩])
                        clear ht
                        go_upto_region 14 with (first | go_skip | ((with_reducible refine at_load_ ?_); refine at_wanted_ (by rfl) ?_; refine lM 2 hM rfl rfl rfl (by first | exact HTF.out | rfl) ?_))
                        refine sd14a (sdEdge g) E w0 gp ga gb gs va q g _ _ _ _ _ hM ?hq0 ?_
                        case hq0 => exact Lib.hid (by intro _ d _ _ _ h; cases d <;> exact h)
                        clear hM
                        intro v110 v111 v112 v113 v114 v115 v116 v117 v118 v119 v120 v121 v122 W hM
                        go_wp2_with fail
                        go_meet
                        case rel => (rw [HQ1.out]; exact hM)
                      | true =>
                        have HTF := Lib.hid (show (prC ga gb va q)[18]? = some (.bool true) from by rw [← ht]; rfl)
                        cases hl : lessB q.e1 (sdEdge g) with
                        | false =>
                          have tl : decide (dZ q.e1 (sdEdge g) < 0) = false := hl
                          have HQ1 := Lib.hid (show q1 = q from by
                            rw [HTL.out, sdTell_t, if_neg (fun hc => Or.elim hc.2.2 (fun h => by rw [ht] at h; cases h) (fun h => by rw [hl] at h; cases h))])
                          clear ht hl
                          go_wp2_with (first | go_skip | ((with_reducible refine at_load_ ?_); refine at_wanted_ (by rfl) ?_; refine lM 2 hM rfl rfl rfl (by first | exact HTF.out | rfl) ?_) | (go_at_call 51; refine (HLS.out _).mono ?_; rintro e W ⟨rfl, rfl⟩; dsimp only))
                          go_meet
                          case rel => (rw [HQ1.out]; exact hM)
                        | true =>
                          have tl : decide (dZ q.e1 (sdEdge g) < 0) = true := hl
                          have HQ1 := Lib.hid (show q1 = { q with e1 := sdEdge g, t1 := true } from by rw [HTL.out, sdTell_t, if_pos ⟨HB2.out.1, HB2.out.2, .inr hl⟩])
                          clear ht hl
                          go_upto_region 14 with (first | go_skip | ((with_reducible refine at_load_ ?_); refine at_wanted_ (by rfl) ?_; refine lM 2 hM rfl rfl rfl (by first | exact HTF.out | rfl) ?_) | (go_at_call 51; refine (HLS.out _).mono ?_; rintro e W ⟨rfl, rfl⟩; dsimp only))
                          refine sd14a (sdEdge g) E w0 gp ga gb gs va q g _ _ _ _ _ hM ?hq0 ?_
                          case hq0 => exact Lib.hid (by intro _ d _ _ _ h; cases d <;> exact h)
                          clear hM
                          intro v110 v111 v112 v113 v114 v115 v116 v117 v118 v119 v120 v121 v122 W hM
                          go_wp2_with fail
                          go_meet
                          case rel => (rw [HQ1.out]; exact hM)
                case rest =>
                  clear hM
                  have hM := hcut
                  clear hcut
                  obtain ⟨Aa, qa, hva⟩ := (hM.row (f := cSeg) (rs := q1.air) 3 rfl).form
                  obtain ⟨na, hna⟩ : ∃ z, z = q1.air.length := ⟨_, rfl⟩
                  have HNA := Lib.hid hna
                  rw [← hna] at hva
                  subst hva
                  clear hna
                  have HAB := Lib.hid (show q1.air.length ≤ 1000000000 from by rw [HTL.out, sdTell_air]; exact HQ.out.2.2)
                  by_cases h2 : na < 200
                  · have HST := Lib.hid (show sdStep true q g = { q1 with air := q1.air ++ [g] } from by unfold sdStep sdAir; rw [← HTL.out, if_pos (by rw [← HNA.out]; exact h2)])
                    have tn : decide ((na : Int) < 200) = true := decide_eq_true (by omega)
                    clear h2
                    go_upto_region 16 with (first | go_skip | ((with_reducible refine at_load_ ?_); refine at_wanted_ (by rfl) ?_; first | (refine lM 2 hM rfl rfl rfl rfl ?_)))
                    refine sd16 E w0 gp ga gb gs Aa na qa q1 g _ q1.air _ _ _ hM ?hq0 HAB ?_
                    case hq0 => exact Lib.hid (by intro _ d _ _ _ h; cases d <;> exact h)
                    clear hM
                    intro v129 v130 v131 v132 v133 v134 v135 v136 v137 v138 An nN qn g5 W hM
                    have hM3 := (show MemX E w0 _ ([_, _] ++ (rowR 13 cSeg (.slice (some ⟨gr, offr, none⟩) nl ql) l :: prR gp ga gb (.slice An nN qn) (sdStep true q g) :: arR (.slice An nN qn) (sdStep true q g).air :: (cnH ga gia gwa c1 k1 ++ (cnH gb gib gwb b kb ++ m)))) from by rw [HST.out]; exact hM).drop_
                    clear hM
                    have hjb : (j : Int) + 1 ≤ 9223372036854775807 := by have := HNB.out; omega
                    go_wp2_with fail
                    go_roundg (nl - (j + 1))
                    case measure => have := HGJ.out; omega
                    case rel => exact ⟨j + 1, sdStep true q g, (.slice An nN qn), rfl, by omega, by go_num, hM3, Lib.hid ⟨HNX.out, HQ.out.2.1.step true g, sdStep_air true q g _ HQ.out.2.2 (by decide)⟩⟩
                  · have HST := Lib.hid (show sdStep true q g = q1 from by unfold sdStep sdAir; rw [← HTL.out, if_neg (by rw [← HNA.out]; exact h2)])
                    have tn : decide ((na : Int) < 200) = false := decide_eq_false (by omega)
                    clear h2
                    have hM3 := (show MemX E w0 _ ([_] ++ (rowR 13 cSeg (.slice (some ⟨gr, offr, none⟩) nl ql) l :: prR gp ga gb (.slice Aa na qa) (sdStep true q g) :: arR (.slice Aa na qa) (sdStep true q g).air :: (cnH ga gia gwa c1 k1 ++ (cnH gb gib gwb b kb ++ m)))) from by rw [HST.out]; exact hM).drop_
                    have hjb : (j : Int) + 1 ≤ 9223372036854775807 := by have := HNB.out; omega
                    go_wp2_with (first | go_skip | ((with_reducible refine at_load_ ?_); refine at_wanted_ (by rfl) ?_; first | (refine lM 2 hM rfl rfl rfl rfl ?_)))
                    clear hM
                    go_roundg (nl - (j + 1))
                    case measure => have := HGJ.out; omega
                    case rel => exact ⟨j + 1, sdStep true q g, (.slice Aa na qa), rfl, by omega, by go_num, hM3, Lib.hid ⟨HNX.out, HQ.out.2.1.step true g, sdStep_air true q g _ HQ.out.2.2 (by decide)⟩⟩
          · rw [if_neg hok] at hsd; cases hsd
        · obtain rfl : nl = j := by omega
          have HQP := Lib.hid (show q = p1 from by
            have h := HQ.out.1
            rw [List.drop_eq_nil_of_le (by rw [← HNL.out]; exact Nat.le_refl _)] at h
            exact Option.some.inj h)
          clear hlt HGJ hj
          replace hM := (show MemX E w0 _ ([_] ++ (prR gp ga gb va q :: arR va q.air :: (cnH ga gia gwa c1 k1 ++ (cnH gb gib gwb b kb ++ m)))) from hM).drop_
          go_wp2_with fail
          go_roundg 1
          case measure => have := HGH.out; omega
          case rel => exact ⟨1, c1, b, q, k1, kb, va, rfl, rfl, .inr (.inl ⟨rfl, HCE.out.symm, HXB.out, HQP.out.symm⟩), hM, Lib.hid ⟨HK1.out, HKB.out⟩⟩
    · have HPP := Lib.hid HP1.out
      obtain ⟨a, ha⟩ : ∃ z, z = ya := ⟨_, rfl⟩
      obtain ⟨b, hb⟩ : ∃ z, z = xb := ⟨_, rfl⟩
      obtain ⟨p, hp⟩ : ∃ z, z = p1 := ⟨_, rfl⟩
      rw [← ha] at hM HKA
      rw [← hb] at hM HCB HSD1 HEB HSEGB HKB
      rw [← hp] at hM HSD1 HPP
      have HXA := Lib.hid (show ya = a from ha.symm)
      clear ha hb hp
      have HO := Lib.hid (fun (W : World) (ka kb : KPt) (va : Value) (h : MemX E w0 W (prR gp ga gb va p :: arR va p.air :: (cnH ga gia gwa a ka ++ (cnH gb gib gwb b kb ++ m)))) (hk : KOk kb gib gwb b.h) => (by
        have h2 := outF (prR gp ga gb va p :: arR va p.air :: cnH ga gia gwa a ka) m h hk HCB.out (by have := HT.out; omega)
        exact h2 : Calls Try.prog 15 #[.pointer (some ⟨gb, 0, none⟩)] W fun e W' => ∃ v k', e = .returned v ∧ MemX E w0 W' (rowR 13 cSeg v (cOut b).2 :: prR gp ga gb va p :: arR va p.air :: (cnH ga gia gwa a ka ++ (cnH gb gib gwb (cOut b).1 k' ++ m))) ∧ KOk k' gib gwb (cOut b).1.h))
      obtain ⟨l, hl⟩ : ∃ z, z = (cOut b).2 := ⟨_, rfl⟩
      obtain ⟨c1, hc1⟩ : ∃ z, z = (cOut b).1 := ⟨_, rfl⟩
      have HSG := Lib.hid (show ∀ g ∈ l, SegOk g from by rw [hl]; exact HSEGB.out)
      have HSD := Lib.hid (show sdList false p l = some p2 from by rw [hl]; exact HSD1.out)
      have HCE := Lib.hid (show c1 = yb from by rw [hc1]; exact HEB.out)
      have HPO := Lib.hid (HPP.out)
      rw [← hl, ← hc1] at HO
      clear hl hc1
      obtain ⟨nl, hnl⟩ : ∃ z, z = l.length := ⟨_, rfl⟩
      have HNL := Lib.hid hnl
      clear hnl
      go_wp2_with (first | go_skip | (go_at_call 15; refine (HO.out _ ka kb va hM HKB.out).mono ?_; clear hM HKB; rintro e W ⟨v, k1, rfl, hM, hK⟩; have HK1 := Lib.hid hK; clear hK; obtain ⟨Al, ql, hv⟩ := (hM.row (f := cSeg) (rs := l) 0 rfl).form; rw [← HNL.out] at hv; subst hv; dsimp only))
      clear HO
      go_loopg [19] nl (fun gh v wr => ∃ (j : Nat) (q : KPa) (va : Value), gh = nl - j ∧ j ≤ nl ∧ v = .int .i64 j ∧ MemX E w0 wr (rowR 13 cSeg (.slice Al nl ql) l :: prR gp ga gb va q :: arR va q.air :: (cnH ga gia gwa a ka ++ (cnH gb gib gwb c1 k1 ++ m))) ∧ Hid (sdList false q (l.drop j) = some p2 ∧ POk q ∧ q.air.length ≤ 1000000000))
      case atStart => exact ⟨0, p, va, by omega, by omega, rfl, hM, Lib.hid ⟨HSD.out, HPO.out⟩⟩
      case round =>
        clear hM
        obtain ⟨j, q, va, hgj, hj, rfl, hM, HQ⟩ := hrel
        have HGJ := Lib.hid hgj
        clear hgj
        by_cases hlt : j < nl
        · obtain ⟨g, hr⟩ : ∃ x, l[j]? = some x := ⟨l[j]'(by rw [← HNL.out]; exact hlt), List.getElem?_eq_getElem _⟩
          have hgs := HSG.out g (List.mem_of_getElem? hr)
          have hdr : l.drop j = g :: l.drop (j + 1) := by
            obtain ⟨h1, h2⟩ := List.getElem?_eq_some_iff.1 hr
            rw [List.drop_eq_getElem_cons h1, h2]
          have hsd := HQ.out.1
          rw [hdr] at hsd
          unfold sdList at hsd
          by_cases hok : sdOk false q g = true
          · rw [if_pos hok] at hsd
            have HNX := Lib.hid hsd
            have HOK := Lib.hid hok
            have hg1 : g.fa = 2 ∧ g.fp = 80 := by
              unfold sdOk at hok
              simp only [Bool.and_eq_true, decide_eq_true_eq] at hok
              exact hok.1.1
            have hg2 : g.ta = 1 ∧ g.tp = 40000 := by
              unfold sdOk at hok
              simp only [Bool.and_eq_true, decide_eq_true_eq] at hok
              exact hok.1.2.1
            have hg3 : tcChk g = 0 := by
              unfold sdOk at hok
              simp only [Bool.and_eq_true, decide_eq_true_eq] at hok
              exact hok.1.2.2
            have hg4 := sdOk_f hok
            have HCK := Lib.hid (fun W => (by have h := tcCheck_any g W hgs; rw [hg3] at h; exact h : Calls Try.prog 47 #[.agg (cSeg g).toArray] W fun e w' => e = .returned (.int .i64 0) ∧ Below W.heap.size W w'))
            have HG12 := Lib.hid (And.intro hg1 hg2)
            have HG4 := Lib.hid hg4
            have HGS := Lib.hid hgs
            clear hg1 hg2 hg3 hg4 hok hdr hsd hgs
            obtain ⟨gr, offr, cr', hv, hwa⟩ := (hM.row (f := cSeg) (rs := l) 0 rfl).pos (by rw [← HNL.out]; omega)
            have HNB := Lib.hid (show (nl : Int) ≤ 9223372036854775807 from by have h1 := hwa.le; have h2 := hwa.mx; rw [← HNL.out] at h1; simp only [maxLen] at h2; omega)
            clear hwa
            injection hv with hv1 hv3 hv2
            clear hv3
            subst hv1 hv2
            go_upto_region 7 with (first | go_skip | ((with_reducible refine at_load_ (T := 33) ?_); refine wpList_load_row (f := cSeg) rfl _ _ rfl 0 _ _ hM rfl hr rfl cSeg_len _ Try.underlying33 rfl sz_Seg ?_) | ((with_reducible refine at_alloc_ (T := 33) ?_); refine wpList_alloc_mem rfl 33 rfl _ zv_Seg _ rfl hM ?_; clear hM; intro gs W hM; replace hM := cn_last hM) | ((with_reducible refine at_store_ (T := 33) ?_); refine wpList_store_mem rfl 33 _ _ rfl 0 _ _ _ (cSeg g) hM rfl rfl rfl rfl sz_Seg rfl ?_; clear hM; intro W hM; simp only [List.cons_append, zE] at hM))
            refine sd7b E w0 gp ga gb gs va q g _ _ _ _ _ hM ?hq0 HG12.out.1 HG12.out.2 HCK ?_
            case hq0 => exact Lib.hid (by intro _ d _ _ _ h; cases d <;> exact h)
            clear hM
            intro v23 v24 v25 v26 v27 v28 v29 v30 v31 v32 v33 v34 v35 v36 v37 v38 v39 v40 v41 v42 v43 v44 v45 v46 v47 W hM
            go_upto_region 9 with (fail)
            go_cut [77] (fun v W => v = .bool false ∧ MemX E w0 W (atR gs 33 (cSeg g) :: rowR 13 cSeg (.slice (some ⟨gr, offr, none⟩) nl ql) l :: prR gp ga gb va q :: arR va q.air :: (cnH ga gia gwa a ka ++ (cnH gb gib gwb c1 k1 ++ m))))
            case first =>
              cases ht : q.t1 with
              | false =>
                have HTO := Lib.hid ht
                clear ht
                refine sd9b0 E w0 gp ga gb gs va q g _ _ _ _ _ hM ?hq0 HTO ?_
                case hq0 => exact Lib.hid (by intro _ d _ _ _ h; cases d <;> exact h)
                clear hM
                intro v49 v50 v51 v52 v53 v54 v55 v56 v57 v58 v59 v60 v61 v62 v63 v64 v65 v66 v67 v68 v69 v70 v71 v72 v73 v74 v75 v76 W hM
                go_wp2_with fail
                go_meet
                case rel => exact ⟨rfl, hM⟩
              | true =>
                have HTO := Lib.hid ht
                have hg5 := HG4.out
                rw [ht, Bool.true_and] at hg5
                clear ht
                by_cases hz : 0 < (g.b.size : Int)
                · rw [decide_eq_true hz, Bool.true_and] at hg5
                  have HZ := Lib.hid hz
                  have HLS := Lib.hid (fun W => less_no q.e1 g.seq g.b.size hg5 W)
                  clear hg5 hz
                  refine sd9b1 E w0 gp ga gb gs va q g _ _ _ _ _ hM ?hq0 HTO HZ HLS ?_
                  case hq0 => exact Lib.hid (by intro _ d _ _ _ h; cases d <;> exact h)
                  clear hM
                  intro v49 v50 v51 v52 v53 v54 v55 v56 v57 v58 v59 v60 v61 v62 v63 v64 v65 v66 v67 v68 v69 v70 v71 v72 v73 v74 v75 v76 W hM
                  go_wp2_with fail
                  go_meet
                  case rel => exact ⟨rfl, hM⟩
                · have HZ := Lib.hid hz
                  clear hg5 hz
                  refine sd9b2 E w0 gp ga gb gs va q g _ _ _ _ _ hM ?hq0 HTO HZ ?_
                  case hq0 => exact Lib.hid (by intro _ d _ _ _ h; cases d <;> exact h)
                  clear hM
                  intro v49 v50 v51 v52 v53 v54 v55 v56 v57 v58 v59 v60 v61 v62 v63 v64 v65 v66 v67 v68 v69 v70 v71 v72 v73 v74 v75 v76 W hM
                  go_wp2_with fail
                  go_meet
                  case rel => exact ⟨rfl, hM⟩
            case rest =>
              clear hM
              obtain ⟨rfl, hM⟩ := hcut
              go_upto_region 11 with (fail)
              obtain ⟨bb, hbb⟩ : ∃ z, z = (g.has && !g.rst) := ⟨_, rfl⟩
              obtain ⟨q1, hq1⟩ : ∃ z, z = (sdTell false q g) := ⟨_, rfl⟩
              have HBB := Lib.hid hbb
              have HTL := Lib.hid hq1
              clear hbb hq1
              go_cut [84] (fun v W => v = .bool bb ∧ MemX E w0 W (atR gs 33 (cSeg g) :: rowR 13 cSeg (.slice (some ⟨gr, offr, none⟩) nl ql) l :: prR gp ga gb va q :: arR va q.air :: (cnH ga gia gwa a ka ++ (cnH gb gib gwb c1 k1 ++ m))))
              case first =>
                cases h1 : g.has with
                | false =>
                  have HF7 := Lib.hid (show (cSeg g)[7]? = some (.bool false) from by rw [← h1]; rfl)
                  have HB2 := Lib.hid (show bb = false from by rw [HBB.out, h1]; rfl)
                  clear h1
                  go_wp2_with (first | go_skip | ((with_reducible refine at_load_ ?_); refine at_wanted_ (by rfl) ?_; refine lM 0 hM rfl rfl rfl (by first | exact HF7.out | rfl) ?_))
                  go_meet
                  case rel => exact ⟨by rw [HB2.out], hM⟩
                | true =>
                  have HF7 := Lib.hid (show (cSeg g)[7]? = some (.bool true) from by rw [← h1]; rfl)
                  cases h2 : g.rst with
                  | false =>
                    have HF9 := Lib.hid (show (cSeg g)[9]? = some (.bool false) from by rw [← h2]; rfl)
                    have HB2 := Lib.hid (show bb = true from by rw [HBB.out, h1, h2]; rfl)
                    clear h1 h2
                    go_wp2_with (first | go_skip | ((with_reducible refine at_load_ ?_); refine at_wanted_ (by rfl) ?_; refine lM 0 hM rfl rfl rfl (by first | exact HF7.out | exact HF9.out | rfl) ?_))
                    go_meet
                    case rel => exact ⟨by rw [HB2.out], hM⟩
                  | true =>
                    have HF9 := Lib.hid (show (cSeg g)[9]? = some (.bool true) from by rw [← h2]; rfl)
                    have HB2 := Lib.hid (show bb = false from by rw [HBB.out, h1, h2]; rfl)
                    clear h1 h2
                    go_wp2_with (first | go_skip | ((with_reducible refine at_load_ ?_); refine at_wanted_ (by rfl) ?_; refine lM 0 hM rfl rfl rfl (by first | exact HF7.out | exact HF9.out | rfl) ?_))
                    go_meet
                    case rel => exact ⟨by rw [HB2.out], hM⟩
              case rest =>
                clear hM
                obtain ⟨rfl, hM⟩ := hcut
                go_upto_if 84 with (fail)
                go_cut [7] (fun v W => MemX E w0 W (atR gs 33 (cSeg g) :: rowR 13 cSeg (.slice (some ⟨gr, offr, none⟩) nl ql) l :: prR gp ga gb va q1 :: arR va q1.air :: (cnH ga gia gwa a ka ++ (cnH gb gib gwb c1 k1 ++ m))))
                case first =>
                  cases bb with
                  | false =>
                    have HQ1 := Lib.hid (show q1 = q from by
                      have h := HBB.out
                      rw [HTL.out, sdTell_f, if_neg (fun hc => by rw [hc.1, hc.2.1] at h; cases h)])
                    go_wp2_with fail
                    go_meet
                    case rel => (rw [HQ1.out]; exact hM)
                  | true =>
                    have hb2 : g.has = true ∧ g.rst = false := by
                      have h := HBB.out
                      cases h1 : g.has <;> cases h2 : g.rst <;> rw [h1, h2] at h <;> first | exact ⟨rfl, rfl⟩ | cases h
                    have HB2 := Lib.hid hb2
                    clear hb2
                    go_upto_region 12 with (fail)
                    go_cut [7] (fun v W => v = .int .u32 (sdEdge g) ∧ MemX E w0 W (atR gs 33 (cSeg g) :: rowR 13 cSeg (.slice (some ⟨gr, offr, none⟩) nl ql) l :: prR gp ga gb va q :: arR va q.air :: (cnH ga gia gwa a ka ++ (cnH gb gib gwb c1 k1 ++ m))))
                    case first =>
                      go_wp2_with (first | go_skip | ((with_reducible refine at_load_ ?_); refine at_wanted_ (by rfl) ?_; first | (refine lM 0 hM rfl rfl rfl rfl ?_)))
                      go_meet
                      case rel => exact ⟨rfl, hM⟩
                    case rest =>
                      clear hM
                      obtain ⟨rfl, hM⟩ := hcut
                      have HLS := Lib.hid (fun W => Less_any q.e0 (sdEdge g) W HQ.out.2.1.e0.1 HQ.out.2.1.e0.2 (u32_bd _).1 (u32_bd _).2)
                      go_upto_region 13 with (fail)
                      cases ht : q.t0 with
                      | false =>
                        have HTF := Lib.hid (show (prC ga gb va q)[17]? = some (.bool false) from by rw [← ht]; rfl)
                        have HQ1 := Lib.hid (show q1 = { q with e0 := sdEdge g, t0 := true } from by rw [HTL.out, sdTell_f, if_pos ⟨HB2.out.1, HB2.out.2, .inl ht⟩])
                        clear ht
                        go_upto_region 14 with (first | go_skip | ((with_reducible refine at_load_ ?_); refine at_wanted_ (by rfl) ?_; refine lM 2 hM rfl rfl rfl (by first | exact HTF.out | rfl) ?_))
                        refine sd14b (sdEdge g) E w0 gp ga gb gs va q g _ _ _ _ _ hM ?hq0 ?_
                        case hq0 => exact Lib.hid (by intro _ d _ _ _ h; cases d <;> exact h)
                        clear hM
                        intro v110 v111 v112 v113 v114 v115 v116 v117 v118 v119 v120 v121 v122 W hM
                        go_wp2_with fail
                        go_meet
                        case rel => (rw [HQ1.out]; exact hM)
                      | true =>
                        have HTF := Lib.hid (show (prC ga gb va q)[17]? = some (.bool true) from by rw [← ht]; rfl)
                        cases hl : lessB q.e0 (sdEdge g) with
                        | false =>
                          have tl : decide (dZ q.e0 (sdEdge g) < 0) = false := hl
                          have HQ1 := Lib.hid (show q1 = q from by
                            rw [HTL.out, sdTell_f, if_neg (fun hc => Or.elim hc.2.2 (fun h => by rw [ht] at h; cases h) (fun h => by rw [hl] at h; cases h))])
                          clear ht hl
                          go_wp2_with (first | go_skip | ((with_reducible refine at_load_ ?_); refine at_wanted_ (by rfl) ?_; refine lM 2 hM rfl rfl rfl (by first | exact HTF.out | rfl) ?_) | (go_at_call 51; refine (HLS.out _).mono ?_; rintro e W ⟨rfl, rfl⟩; dsimp only))
                          go_meet
                          case rel => (rw [HQ1.out]; exact hM)
                        | true =>
                          have tl : decide (dZ q.e0 (sdEdge g) < 0) = true := hl
                          have HQ1 := Lib.hid (show q1 = { q with e0 := sdEdge g, t0 := true } from by rw [HTL.out, sdTell_f, if_pos ⟨HB2.out.1, HB2.out.2, .inr hl⟩])
                          clear ht hl
                          go_upto_region 14 with (first | go_skip | ((with_reducible refine at_load_ ?_); refine at_wanted_ (by rfl) ?_; refine lM 2 hM rfl rfl rfl (by first | exact HTF.out | rfl) ?_) | (go_at_call 51; refine (HLS.out _).mono ?_; rintro e W ⟨rfl, rfl⟩; dsimp only))
                          refine sd14b (sdEdge g) E w0 gp ga gb gs va q g _ _ _ _ _ hM ?hq0 ?_
                          case hq0 => exact Lib.hid (by intro _ d _ _ _ h; cases d <;> exact h)
                          clear hM
                          intro v110 v111 v112 v113 v114 v115 v116 v117 v118 v119 v120 v121 v122 W hM
                          go_wp2_with fail
                          go_meet
                          case rel => (rw [HQ1.out]; exact hM)
                case rest =>
                  clear hM
                  have hM := hcut
                  clear hcut
                  obtain ⟨Aa, qa, hva⟩ := (hM.row (f := cSeg) (rs := q1.air) 3 rfl).form
                  obtain ⟨na, hna⟩ : ∃ z, z = q1.air.length := ⟨_, rfl⟩
                  have HNA := Lib.hid hna
                  rw [← hna] at hva
                  subst hva
                  clear hna
                  have HAB := Lib.hid (show q1.air.length ≤ 1000000000 from by rw [HTL.out, sdTell_air]; exact HQ.out.2.2)
                  by_cases h2 : na < 200
                  · have HST := Lib.hid (show sdStep false q g = { q1 with air := q1.air ++ [g] } from by unfold sdStep sdAir; rw [← HTL.out, if_pos (by rw [← HNA.out]; exact h2)])
                    have tn : decide ((na : Int) < 200) = true := decide_eq_true (by omega)
                    clear h2
                    go_upto_region 16 with (first | go_skip | ((with_reducible refine at_load_ ?_); refine at_wanted_ (by rfl) ?_; first | (refine lM 2 hM rfl rfl rfl rfl ?_)))
                    refine sd16 E w0 gp ga gb gs Aa na qa q1 g _ q1.air _ _ _ hM ?hq0 HAB ?_
                    case hq0 => exact Lib.hid (by intro _ d _ _ _ h; cases d <;> exact h)
                    clear hM
                    intro v129 v130 v131 v132 v133 v134 v135 v136 v137 v138 An nN qn g5 W hM
                    have hM3 := (show MemX E w0 _ ([_, _] ++ (rowR 13 cSeg (.slice (some ⟨gr, offr, none⟩) nl ql) l :: prR gp ga gb (.slice An nN qn) (sdStep false q g) :: arR (.slice An nN qn) (sdStep false q g).air :: (cnH ga gia gwa a ka ++ (cnH gb gib gwb c1 k1 ++ m)))) from by rw [HST.out]; exact hM).drop_
                    clear hM
                    have hjb : (j : Int) + 1 ≤ 9223372036854775807 := by have := HNB.out; omega
                    go_wp2_with fail
                    go_roundg (nl - (j + 1))
                    case measure => have := HGJ.out; omega
                    case rel => exact ⟨j + 1, sdStep false q g, (.slice An nN qn), rfl, by omega, by go_num, hM3, Lib.hid ⟨HNX.out, HQ.out.2.1.step false g, sdStep_air false q g _ HQ.out.2.2 (by decide)⟩⟩
                  · have HST := Lib.hid (show sdStep false q g = q1 from by unfold sdStep sdAir; rw [← HTL.out, if_neg (by rw [← HNA.out]; exact h2)])
                    have tn : decide ((na : Int) < 200) = false := decide_eq_false (by omega)
                    clear h2
                    have hM3 := (show MemX E w0 _ ([_] ++ (rowR 13 cSeg (.slice (some ⟨gr, offr, none⟩) nl ql) l :: prR gp ga gb (.slice Aa na qa) (sdStep false q g) :: arR (.slice Aa na qa) (sdStep false q g).air :: (cnH ga gia gwa a ka ++ (cnH gb gib gwb c1 k1 ++ m)))) from by rw [HST.out]; exact hM).drop_
                    have hjb : (j : Int) + 1 ≤ 9223372036854775807 := by have := HNB.out; omega
                    go_wp2_with (first | go_skip | ((with_reducible refine at_load_ ?_); refine at_wanted_ (by rfl) ?_; first | (refine lM 2 hM rfl rfl rfl rfl ?_)))
                    clear hM
                    go_roundg (nl - (j + 1))
                    case measure => have := HGJ.out; omega
                    case rel => exact ⟨j + 1, sdStep false q g, (.slice Aa na qa), rfl, by omega, by go_num, hM3, Lib.hid ⟨HNX.out, HQ.out.2.1.step false g, sdStep_air false q g _ HQ.out.2.2 (by decide)⟩⟩
          · rw [if_neg hok] at hsd; cases hsd
        · obtain rfl : nl = j := by omega
          have HQP := Lib.hid (show q = p2 from by
            have h := HQ.out.1
            rw [List.drop_eq_nil_of_le (by rw [← HNL.out]; exact Nat.le_refl _)] at h
            exact Option.some.inj h)
          clear hlt HGJ hj
          replace hM := (show MemX E w0 _ ([_] ++ (prR gp ga gb va q :: arR va q.air :: (cnH ga gia gwa a ka ++ (cnH gb gib gwb c1 k1 ++ m)))) from hM).drop_
          go_wp2_with fail
          go_roundg 0
          case measure => have := HGH.out; omega
          case rel => exact ⟨2, a, c1, q, ka, k1, va, rfl, rfl, .inr (.inr ⟨rfl, HXA.out, HCE.out.symm, HQP.out.symm⟩), hM, Lib.hid ⟨HKA.out, HK1.out⟩⟩
    · (go_wp2_with fail)
      refine bodyPost_ret (v := .bool true) (by simp [results, Try.results21, go_sem]) rfl ?_
      exact ⟨ka, kb, va, rfl, hM, HKA.out, HKB.out⟩
end Go.Proofs.Ytfpifahkpkjfgaa
