/- What ConnBlind needs, a part: WConnBlind. -/
import Derived.Deep.CutBlock
import Derived.Test.YtfpifahkpkjfgaaMZ
import Derived.Test.YtfpifahkpkjfgaaMConnBlind1
import Derived.Test.YtfpifahkpkjfgaaMConnBlind3
/- conn: the walk of ConnBlind. Written by my gencn.py. -/
namespace Go.Proofs.Ytfpifahkpkjfgaa
open Go.RowKit Go.Lib
set_option linter.unusedVariables false
set_option linter.unusedSimpArgs false
set_option maxRecDepth 100000 in
set_option maxHeartbeats 8000000 in
theorem w_ConnBlind (a0 : Int) (a1 : Int) (a2 : Int) (a3 : Int) (a4a : Int) (a4b : Int) (w : World) (ha0 : 0 ≤ a0) (ha0' : a0 ≤ 4294967295) (ha1 : 0 ≤ a1) (ha1' : a1 ≤ 4294967295) (ha2 : 0 ≤ a2) (ha2' : a2 ≤ 4294967295) (ha3 : -9223372036854775808 ≤ a3) (ha3' : a3 ≤ 9223372036854775807) (ha4a : 0 ≤ a4a) (ha4a' : a4a ≤ 4294967295) (ha4b : -9223372036854775808 ≤ a4b) (ha4b' : a4b ≤ 9223372036854775807) :
    Calls Try.prog 5 #[.int .u32 a0, .int .u32 a1, .int .u32 a2, .int .i64 a3, .agg #[.int .u32 a4a, .int .i64 a4b]] w fun e w' => e = .returned (.bool true) ∧ Below w.heap.size w w' := by
  obtain ⟨iss, rfl⟩ : ∃ z, z = a0 := ⟨_, rfl⟩
  obtain ⟨irs, rfl⟩ : ∃ z, z = a1 := ⟨_, rfl⟩
  obtain ⟨n, rfl⟩ : ∃ z, z = a2 := ⟨_, rfl⟩
  have hM := Mem.nil w
  have HI := Lib.hid (show 0 ≤ iss ∧ iss ≤ 4294967295 from ⟨ha0, ha0'⟩)
  have HJ := Lib.hid (show 0 ≤ irs ∧ irs ≤ 4294967295 from ⟨ha1, ha1'⟩)
  have HN := Lib.hid (show 0 ≤ n ∧ n ≤ 4294967295 from ⟨ha2, ha2'⟩)
  have HO := Lib.hid (show (0 ≤ a4a ∧ a4a ≤ 4294967295) ∧ (-9223372036854775808 ≤ a4b ∧ a4b ≤ 9223372036854775807) from ⟨⟨ha4a, ha4a'⟩, ⟨ha4b, ha4b'⟩⟩)
  have HR := Lib.hid (fun W => Rest_any a3 65536 W ha3 ha3' (by decide) (by decide))
  obtain ⟨win, hwin⟩ : ∃ z, z = a3 % 65536 := ⟨_, rfl⟩
  have HW := Lib.hid (show 0 ≤ win ∧ win ≤ 65535 by omega)
  rw [← hwin] at HR
  have HPA := Lib.hid (fun W => (by have h := paired_any iss irs 500 500 W ha0 ha0' ha1 ha1' (by decide) (by decide) (by decide) (by decide); rw [show (8 + 500 % 993 : Int) = 508 from rfl] at h; exact h : Calls Try.prog 20 #[.int .u32 iss, .int .u32 irs, .agg #[.int .i64 500, .int .i64 500]] W fun e w' => ∃ l : KPl, e = .returned (.tuple #[.pointer (some ⟨l.gp, 0, none⟩), .bool true]) ∧ Mem W w' (prM l (pr0 iss irs 508 508) []) ∧ l.ok (pr0 iss irs 508 508)))
  have cia : CI (pr0 iss irs 508 508).a 1 := (ci_a1 HI.out (by decide)).mono (by decide)
  have cib : CI (pr0 iss irs 508 508).b 1 := (ci_take HJ.out (by decide) (gSyn 1 40000 2 80 iss 508) (by decide : (0 : Int) ≤ 2048 ∧ (2048 : Int) ≤ 65535) HI.out).mono (by decide)
  have sa0 : ∀ g ∈ (cOut (pr0 iss irs 508 508).a).2, SegOk g := by
    show ∀ g ∈ (cOut (cA1 1 40000 2 80 iss 508)).2, SegOk g
    rw [out_a1]; intro g hg; cases hg
  have sb0 : ∀ g ∈ (cOut (pr0 iss irs 508 508).b).2, SegOk g := by
    have hb : cOut (cTake 2 80 (gSyn 1 40000 2 80 iss 508) irs 508) = (eB1 iss irs, [gS iss irs]) := out_b (la := 2) (lp := 80) (ra := 1) (rp := 40000) (own := 508) (m := 508) HJ.out (by decide)
    show ∀ g ∈ (cOut (cTake 2 80 (gSyn 1 40000 2 80 iss 508) irs 508)).2, SegOk g
    rw [hb]
    exact bl_seg 0 HI.out HJ.out
  have HS0 := Lib.hid (fun (W : World) (gp ga gb gia gwa gib gwb : Nat) (ka kb : KPt) (va : Value) (m : List Res) h hk => sends_any (E := noE) (w0 := w) (⟨gp, ga, gia, gwa, ka, gb, gib, gwb, kb, va⟩ : KPl) (pr0 iss irs 508 508) (bl iss irs 0) m W h hk 1 cia cib (by decide) (bl_start HI.out HJ.out) ⟨(by decide : (0 : Int) ≤ 0 ∧ (0 : Int) ≤ 4294967295), (by decide : (0 : Int) ≤ 0 ∧ (0 : Int) ≤ 4294967295)⟩ (Nat.zero_le _) sa0 sb0)
  have HS := Lib.hid (fun (t : Nat) (W : World) (gp ga gb gia gwa gib gwb : Nat) (ka kb : KPt) (va : Value) (m : List Res) h hk => sends_any (E := noE) (w0 := w) (⟨gp, ga, gia, gwa, ka, gb, gib, gwb, kb, va⟩ : KPl) (drain (bl iss irs t)) (bl iss irs (t + 1)) m W h hk 1 (bl_ci t HI.out HJ.out).2.2.1 (bl_ci t HI.out HJ.out).2.2.2.1 (by decide) (bl_step t HI.out HJ.out) ⟨(bl_ci t HI.out HJ.out).2.2.2.2.1.e0, (bl_ci t HI.out HJ.out).2.2.2.2.1.e1⟩ (Nat.zero_le _) (bl_ci t HI.out HJ.out).2.2.2.2.2.1 (bl_ci t HI.out HJ.out).2.2.2.2.2.2)
  clear hwin cia cib sa0 sb0 ha0 ha0' ha1 ha1' ha2 ha2' ha3 ha3' ha4a ha4a' ha4b ha4b'
  go_enter Try.func5, Try.ntmps5
  go_upto_region 1 with (first | go_skip | ((with_reducible refine at_box_ ?_); refine wpList_box_mem rfl _ _ rfl [.int .u32 a4a, .int .i64 a4b] rfl hM ?_; clear hM; intro gb W hM; first | (simp only [List.nil_append] at hM) | (simp only [List.cons_append, List.nil_append] at hM)))
  obtain ⟨go, hgo⟩ : ∃ x, x = gb := ⟨_, rfl⟩
  subst hgo
  go_upto_region 2 with (first | go_skip | (go_at_call 20; refine (HPA.out _).mono ?_; rintro e W ⟨⟨gp, ga, gia, gwa, ka, gb, gib, gwb, kb, va⟩, rfl, hN, hok⟩; have HOK := Lib.hid hok; clear hok; replace hM := hM.new_ hN; rw [prM_app] at hM; clear hN; dsimp only))
  go_wp2_with (first | go_skip | (go_at_call 21; refine (HS0.out _ gp ga gb gia gwa gib gwb ka kb va _ hM HOK.out).mono ?_; clear hM HOK; rintro e W ⟨ka1, kb1, va1, rfl, hM, hok⟩; have HOK1 := Lib.hid hok; clear hok; dsimp only at hM ⊢))
  clear HPA HS0
  go_loopg [32] 6 (fun gh v wr => ∃ (t gia gwa gib gwb : Nat) (ka kb : KPt) (va : Value), gh = 6 - t ∧ t ≤ 6 ∧ v = .int .i64 t ∧ MemX noE w wr (prM (⟨gp, ga, gia, gwa, ka, gb, gib, gwb, kb, va⟩ : KPl) (bl iss irs t) [atR go 29 [.int .u32 a4a, .int .i64 a4b]]) ∧ Hid (KPl.ok (⟨gp, ga, gia, gwa, ka, gb, gib, gwb, kb, va⟩ : KPl) (bl iss irs t)))
  case atStart => exact ⟨0, gia, gwa, gib, gwb, ka1, kb1, va1, rfl, by decide, rfl, hM, HOK1⟩
  case round =>
    clear hM HOK1
    obtain ⟨t, gia, gwa, gib, gwb, ka, kb, va, hgh, ht, rfl, hM, HOK⟩ := hrel
    have HGH := Lib.hid hgh
    clear hgh
    by_cases h6 : t < 6
    · obtain ⟨n0, hn0⟩ : ∃ z, z = (bl iss irs t).p.air.length := ⟨_, rfl⟩
      have HN0 := Lib.hid hn0
      clear hn0
      go_upto_region 6 with (fail)
      rw [show decide ((t : Int) < 6) = true from decide_eq_true (by omega)]
      go_loopg [] n0 (fun gh wr => ∃ (x : KPr) (gia gwa gib gwb : Nat) (ka kb : KPt) (va : Value), gh = x.p.air.length ∧ MemX noE w wr (prM (⟨gp, ga, gia, gwa, ka, gb, gib, gwb, kb, va⟩ : KPl) x [atR go 29 [.int .u32 a4a, .int .i64 a4b]]) ∧ Hid ((x = bl iss irs t ∨ x = drain (bl iss irs t)) ∧ KPl.ok (⟨gp, ga, gia, gwa, ka, gb, gib, gwb, kb, va⟩ : KPl) x))
      case atStart => exact ⟨bl iss irs t, gia, gwa, gib, gwb, ka, kb, va, HN0.out, hM, Lib.hid ⟨.inl rfl, HOK.out⟩⟩
      case round =>
        clear hM HOK
        obtain ⟨x, gia, gwa, gib, gwb, ka, kb, va, hgj, hM, HX⟩ := hrel
        have HGJ := Lib.hid hgj
        clear hgj
        replace hM := (show MemX noE w wr (prR gp ga gb va x.p :: arR va x.p.air :: (cnH ga gia gwa x.a ka ++ (cnH gb gib gwb x.b kb ++ [atR go 29 [.int .u32 a4a, .int .i64 a4b]]))) from hM)
        cases hair : x.p.air with
        | nil =>
          have hx := bl_nil HX.out.1 hair
          rw [hair] at hM
          obtain ⟨Aa, qa, hva⟩ := (hM.row (f := cSeg) (rs := []) 1 rfl).form
          replace hva : va = .slice Aa 0 qa := hva
          subst hva
          rw [← hair] at hM
          have HSN := Lib.hid (HS.out t)
          have HOK := Lib.hid HX.out.2
          rw [hx] at HOK hM
          clear hair hx HX
          have hjb : (t : Int) + 1 ≤ 9223372036854775807 := by omega
          go_wp2_with (first | go_skip | ((with_reducible refine at_load_ ?_); refine at_wanted_ (by rfl) ?_; first | (refine wpList_loadf_mem (by go_simp) _ _ rfl (by kernel_rfl) 0 _ _ _ _ _ hM rfl rfl rfl ?_)) | (go_at_call 21; refine (HSN.out _ gp ga gb gia gwa gib gwb ka kb _ _ hM HOK.out).mono ?_; clear hM HOK; rintro e W ⟨ka1, kb1, va1, rfl, hM, hok⟩; have HOK1 := Lib.hid hok; clear hok; dsimp only at hM ⊢))
          go_roundg (6 - (t + 1))
          case measure => have := HGH.out; omega
          case rel => exact ⟨t + 1, gia, gwa, gib, gwb, ka1, kb1, va1, rfl, by omega, by go_num, hM, HOK1⟩
        | cons g l =>
          obtain ⟨hl, hx, hg, hd1, hd2⟩ := bl_cons HX.out.1 hair
          subst hl
          rw [hair] at hM
          have HHR := Lib.hid hair
          have HGS := Lib.hid (bl_seg t HI.out HJ.out g hg)
          have HCI := Lib.hid (show CI x.a 1 ∧ CI x.b 1 from by rw [hx]; exact ⟨(bl_ci t HI.out HJ.out).1, (bl_ci t HI.out HJ.out).2.1⟩)
          have HOK := Lib.hid HX.out.2
          have HD1 := Lib.hid hd1
          have HD2 := Lib.hid hd2
          obtain ⟨xa, xb, xp⟩ := x
          dsimp only at hM HHR HCI HD1 HD2 HOK
          obtain ⟨b0, of0, q0, hva⟩ := row_one' 1 hM rfl
          subst hva
          have hr : ([g] : List KSeg)[0]? = some g := rfl
          have HGJ2 := Lib.hid (show 1 ≤ gk from by rw [HGJ.out, hair]; exact Nat.le_refl 1)
          clear hair hx hg hd1 hd2 HX HGJ
          go_upto_region 8 with (first | go_skip | ((with_reducible refine at_load_ ?_); refine at_wanted_ (by rfl) ?_; first | (refine wpList_loadf_mem (by go_simp) _ _ rfl (by kernel_rfl) 0 _ _ _ _ _ hM rfl rfl rfl ?_)) | ((with_reducible refine at_load_ (T := 33) ?_); refine wpList_load_row (f := cSeg) rfl _ _ rfl 1 0 _ hM rfl hr rfl cSeg_len _ Try.underlying33 rfl sz_Seg ?_) | ((with_reducible refine at_alloc_ (T := 33) ?_); refine wpList_alloc_mem rfl 33 rfl _ zv_Seg _ rfl hM ?_; clear hM; intro gs W hM; replace hM := cn_last hM) | ((with_reducible refine at_store_ (T := 33) ?_); refine wpList_store_mem rfl 33 _ _ rfl 0 _ _ _ (cSeg g) hM rfl rfl rfl rfl sz_Seg rfl ?_; clear hM; intro W hM; simp only [List.cons_append, zE] at hM))
          go_upto_region 9 with (first | go_skip | ((with_reducible refine at_load_ ?_); refine at_wanted_ (by rfl) ?_; first | (refine wpList_loadf_mem (by go_simp) _ _ rfl (by kernel_rfl) 1 _ _ _ _ _ hM rfl rfl rfl ?_)) | ((with_reducible refine at_store_ ?_); refine wpList_store1_mem rfl _ _ _ rfl 1 _ _ _ _ _ hM rfl rfl (by first | ((conv => lhs; whnf); done) | ((conv => lhs; whnf); rfl)) (by rfl) (by rfl) (by kernel_rfl) rfl ?_; clear hM; intro W hM; simp only [zF, zE, prR, pr6, pr7, pr8, pr9, pr10, pr11, pr12, pr13, pr14, pr15, pr16, pr17, pr18, pr19] at hM))
          replace hM := hM.cut (f := cSeg) (size := 13) (n := 0) 2 rfl rfl (fun _ => rfl)
          replace hM := (show MemX noE w W (atR gs 33 (cSeg g) :: prR gp ga gb (.slice (if q0 = 1 then some ⟨b0, of0, none⟩ else some ⟨b0, of0 + 13, none⟩) 0 (q0 - 1)) ({ xp with air := [] } : KPa) :: arR (.slice (if q0 = 1 then some ⟨b0, of0, none⟩ else some ⟨b0, of0 + 13, none⟩) 0 (q0 - 1)) ({ xp with air := [] } : KPa).air :: (cnH ga gia gwa xa ka ++ (cnH gb gib gwb xb kb ++ [atR go 29 [.int .u32 a4a, .int .i64 a4b]]))) from hM)
          obtain ⟨va2, hva2⟩ : ∃ z, z = (.slice (if q0 = 1 then some ⟨b0, of0, none⟩ else some ⟨b0, of0 + 13, none⟩) 0 (q0 - 1) : Value) := ⟨_, rfl⟩
          obtain ⟨xq, hxq⟩ : ∃ z, z = ({ xp with air := [] } : KPa) := ⟨_, rfl⟩
          have HXQ := Lib.hid hxq
          rw [← hva2] at hM ⊢
          rw [← hxq] at hM
          clear hva2 hxq hr
          by_cases hto : g.ta = 2 ∧ g.tp = 80
          · have HEQ := Lib.hid (fun W => (by have h := eqB_End g.ta g.tp 2 80 W; rw [decide_eq_true hto] at h; exact h : (Op.equalIn 10000 29 (.agg #[.int .u32 g.ta, .int .i64 g.tp]) (.agg #[.int .u32 2, .int .i64 80])).run Try.prog W = .ok true W))
            have HD := Lib.hid (HD1.out hto)
            have HIN := Lib.hid (fun (W : World) (gs : Nat) (h : MemX noE w W (atR gs 33 (cSeg g) :: prR gp ga gb va2 xq :: arR va2 xq.air :: (cnH ga gia gwa xa ka ++ (cnH gb gib gwb xb kb ++ [atR go 29 [.int .u32 a4a, .int .i64 a4b]])))) => (inF (atR gs 33 (cSeg g) :: prR gp ga gb va2 xq :: arR va2 xq.air :: cnH ga gia gwa xa ka) [atR go 29 [.int .u32 a4a, .int .i64 a4b]] h HOK.out.2 HCI.out.2 (by decide) g HGS.out : Calls Try.prog 19 #[.pointer (some ⟨gb, 0, none⟩), .agg (cSeg g).toArray] W fun e W' => ∃ gi' gw' k', e = .returned (.int .i64 (cInE xb g)) ∧ MemX noE w W' (atR gs 33 (cSeg g) :: prR gp ga gb va2 xq :: arR va2 xq.air :: (cnH ga gia gwa xa ka ++ (cnH gb gi' gw' (cIn xb g) k' ++ [atR go 29 [.int .u32 a4a, .int .i64 a4b]]))) ∧ KOk k' gi' gw' (cIn xb g).h))
            clear hto HD1 HD2
            go_upto_region 10 with (fail)
            refine wp_region_M [0,1] [] hM (by kernel_rfl) ?_
            clear hM
            intro wo hM
            refine wpI_takeP (i := 0) (v := ?_) rfl (by kernel_rfl) (by kernel_rfl) (by kernel_rfl) (by first | exact fun _ _ _ h => h | exact fun _ _ _ h => HQ0.out _ _ _ _ _ h) (Or.inl ⟨by rfl, ?hy⟩) ?_
            case hy => (intro W; go_simp; (try with_reducible rfl))
            simp only [Act.put, zA, zB, zC, zD, zE, zF]
            refine wpI_take (i := 1) (v := .agg #[.int .u32 g.ta, .int .i64 g.tp]) rfl (by kernel_rfl) (by kernel_rfl) (by kernel_rfl) (by kernel_rfl) (by first | exact fun _ _ _ h => h | exact fun _ _ _ h => HQ0.out _ _ _ _ _ h) ⟨fun r hr => hM.get 0 hr, fun r hr => hM.get 1 hr, trivial⟩ (Or.inl ⟨by rfl, ?hy⟩) ?_
            case hy => (rintro W ⟨i0, i1, -⟩; have c0 := (show At W _ _ _ from i0 _ rfl).cell; have c1 := (show At W _ _ _ from i1 _ rfl).cell; (try simp only [cSeg,prC] at c0 c1); exact exec_loadw _ _ rfl gs 2 rfl [.int .u32 g.ta, .int .i64 g.tp] _ Try.underlying29 rfl sz_End (range_sub (cs := cSeg g) c0 2 _ rfl))
            simp only [Act.put, zA, zB, zC, zD, zE, zF]
            refine wpI_takeP (i := 2) (v := ?_) rfl (by kernel_rfl) (by kernel_rfl) (by kernel_rfl) (by first | exact fun _ _ _ h => h | exact fun _ _ _ h => HQ0.out _ _ _ _ _ h) (Or.inl ⟨by rfl, ?hy⟩) ?_
            case hy => (intro W; go_simp; (try with_reducible rfl))
            simp only [Act.put, zA, zB, zC, zD, zE, zF]
            refine wpI_takeP (i := 3) (v := ?_) rfl (by kernel_rfl) (by kernel_rfl) (by kernel_rfl) (by first | exact fun _ _ _ h => h | exact fun _ _ _ h => HQ0.out _ _ _ _ _ h) (Or.inl ⟨by rfl, ?hy⟩) ?_
            case hy => (intro W; go_simp; (try with_reducible rfl))
            simp only [Act.put, zA, zB, zC, zD, zE, zF]
            refine wpI_takeP (i := 4) (v := ?_) rfl (by kernel_rfl) (by kernel_rfl) (by kernel_rfl) (by first | exact fun _ _ _ h => h | exact fun _ _ _ h => HQ0.out _ _ _ _ _ h) (Or.inl ⟨by rfl, ?hy⟩) ?_
            case hy => (intro W; go_simp; (try with_reducible rfl))
            simp only [Act.put, zA, zB, zC, zD, zE, zF]
            refine wpI_takeP (i := 5) (v := ?_) rfl (by kernel_rfl) (by kernel_rfl) (by kernel_rfl) (by first | exact fun _ _ _ h => h | exact fun _ _ _ h => HQ0.out _ _ _ _ _ h) (Or.inl ⟨by rfl, ?hy⟩) ?_
            case hy => (intro W; go_simp; (try with_reducible rfl))
            simp only [Act.put, zA, zB, zC, zD, zE, zF]
            refine wpI_take (i := 6) (v := .agg #[.int .u32 2, .int .i64 80]) rfl (by kernel_rfl) (by kernel_rfl) (by kernel_rfl) (by kernel_rfl) (by first | exact fun _ _ _ h => h | exact fun _ _ _ h => HQ0.out _ _ _ _ _ h) ⟨fun r hr => hM.get 0 hr, fun r hr => hM.get 1 hr, trivial⟩ (Or.inl ⟨by rfl, ?hy⟩) ?_
            case hy => (rintro W ⟨i0, i1, -⟩; have c0 := (show At W _ _ _ from i0 _ rfl).cell; have c1 := (show At W _ _ _ from i1 _ rfl).cell; (try simp only [cSeg,prC] at c0 c1); exact exec_loadw _ _ rfl gp 4 rfl [.int .u32 2, .int .i64 80] _ Try.underlying29 rfl sz_End (range_sub (cs := prC ga gb va2 xq) c1 4 _ rfl))
            simp only [Act.put, zA, zB, zC, zD, zE, zF]
            refine wpI_takeP (i := 7) rfl (by kernel_rfl) (by kernel_rfl) (by kernel_rfl) (by first | exact fun _ _ _ h => h | exact fun _ _ _ h => HQ0.out _ _ _ _ _ h) ((.inl ⟨by rfl, fun w => exec_eqs _ _ _ _ rfl _ _ rfl rfl eg_End _ HEQ.out w⟩)) ?_
            simp only [Act.put, zA, zB, zC, zD, zE, zF]
            (try simp only [Bool.not_true, Bool.not_false])
            refine wpI_done (by kernel_rfl) ?_ _
            (try simp only [Act.put, zA, zB, zC, zD, zE, zF])
            go_upto_region 12 with (fail)
            refine wp_region_M [0,1] [] hM (by kernel_rfl) ?_
            clear hM
            intro wo hM
            refine wpI_takeP (i := 0) (v := ?_) rfl (by kernel_rfl) (by kernel_rfl) (by kernel_rfl) (by first | exact fun _ _ _ h => h | exact fun _ _ _ h => HQ0.out _ _ _ _ _ h) (Or.inl ⟨by rfl, ?hy⟩) ?_
            case hy => (intro W; go_simp; (try with_reducible rfl))
            simp only [Act.put, zA, zB, zC, zD, zE, zF]
            refine wpI_takeP (i := 1) (v := ?_) rfl (by kernel_rfl) (by kernel_rfl) (by kernel_rfl) (by first | exact fun _ _ _ h => h | exact fun _ _ _ h => HQ0.out _ _ _ _ _ h) (Or.inl ⟨by rfl, ?hy⟩) ?_
            case hy => (intro W; go_simp; (try with_reducible rfl))
            simp only [Act.put, zA, zB, zC, zD, zE, zF]
            refine wpI_takeP (i := 2) (v := ?_) rfl (by kernel_rfl) (by kernel_rfl) (by kernel_rfl) (by first | exact fun _ _ _ h => h | exact fun _ _ _ h => HQ0.out _ _ _ _ _ h) (Or.inl ⟨by rfl, ?hy⟩) ?_
            case hy => (intro W; go_simp; (try with_reducible rfl))
            simp only [Act.put, zA, zB, zC, zD, zE, zF]
            refine wpI_takeP (i := 3) (v := ?_) rfl (by kernel_rfl) (by kernel_rfl) (by kernel_rfl) (by first | exact fun _ _ _ h => h | exact fun _ _ _ h => HQ0.out _ _ _ _ _ h) (Or.inl ⟨by rfl, ?hy⟩) ?_
            case hy => (intro W; go_simp; (try with_reducible rfl))
            simp only [Act.put, zA, zB, zC, zD, zE, zF]
            refine wpI_takeP (i := 4) (v := ?_) rfl (by kernel_rfl) (by kernel_rfl) (by kernel_rfl) (by first | exact fun _ _ _ h => h | exact fun _ _ _ h => HQ0.out _ _ _ _ _ h) (Or.inl ⟨by rfl, ?hy⟩) ?_
            case hy => (intro W; go_simp; (try with_reducible rfl))
            simp only [Act.put, zA, zB, zC, zD, zE, zF]
            refine wpI_take (i := 5) (v := ?_) rfl (by kernel_rfl) (by kernel_rfl) (by kernel_rfl) (by kernel_rfl) (by first | exact fun _ _ _ h => h | exact fun _ _ _ h => HQ0.out _ _ _ _ _ h) ⟨fun r hr => hM.get 0 hr, fun r hr => hM.get 1 hr, trivial⟩ (Or.inl ⟨by rfl, ?hy⟩) ?_
            case hy => (rintro W ⟨i0, i1, -⟩; have c0 := (show At W _ _ _ from i0 _ rfl).cell; have c1 := (show At W _ _ _ from i1 _ rfl).cell; (try simp only [cSeg,prC] at c0 c1); go_simp; (try with_reducible rfl))
            simp only [Act.put, zA, zB, zC, zD, zE, zF]
            refine wpI_take (i := 6) (v := .agg (cSeg g).toArray) rfl (by kernel_rfl) (by kernel_rfl) (by kernel_rfl) (by kernel_rfl) (by first | exact fun _ _ _ h => h | exact fun _ _ _ h => HQ0.out _ _ _ _ _ h) ⟨fun r hr => hM.get 0 hr, fun r hr => hM.get 1 hr, trivial⟩ (Or.inl ⟨by rfl, ?hy⟩) ?_
            case hy => (rintro W ⟨i0, i1, -⟩; have c0 := (show At W _ _ _ from i0 _ rfl).cell; have c1 := (show At W _ _ _ from i1 _ rfl).cell; (try simp only [cSeg,prC] at c0 c1); exact exec_loadw _ _ rfl gs 0 rfl (cSeg g) _ Try.underlying33 rfl sz_Seg (range_cells c0))
            simp only [Act.put, zA, zB, zC, zD, zE, zF]
            refine wpI_one (i := 7) rfl (by kernel_rfl) ?_
            (try simp only [Act.put, zA, zB, zC, zD, zE, zF])
            go_wp2_with (first
                | go_skip
                | ((go_at_call 19; refine (HIN.out _ gs hM).mono ?_; clear hM; rintro e W ⟨gi4, gw4, k4, rfl, hM, hK⟩; have HK4 := Lib.hid hK; clear hK; dsimp only))
                | ((with_reducible refine at_box_ ?_); refine wpList_box_mem rfl _ _ rfl _ rfl hM ?_; clear hM; intro gb W hM; first | (simp only [List.nil_append] at hM) | (simp only [List.cons_append, List.nil_append] at hM)))
            refine contI_normal ⟨fun r hr => hM.get 0 hr, fun r hr => hM.get 1 hr, trivial⟩ ?_
            (try simp only [Act.put, zA, zB, zC, zD, zE, zF])
            refine wpI_done (by kernel_rfl) ?_ _
            (try simp only [Act.put, zA, zB, zC, zD, zE, zF])
            (go_wp2_with fail)
            replace hM := (show MemX noE w W ([_] ++ _) from hM).drop_
            go_roundg 0
            case measure => have := HGJ2.out; omega
            case rel => exact ⟨⟨xa, cIn xb g, xq⟩, gia, gwa, gi4, gw4, ka, k4, va2, by rw [HXQ.out]; rfl, hM, Lib.hid ⟨.inr (by rw [HD.out, HXQ.out]), HOK.out.1, HK4.out⟩⟩
          · have HEQ := Lib.hid (fun W => (by have h := eqB_End g.ta g.tp 2 80 W; rw [decide_eq_false hto] at h; exact h : (Op.equalIn 10000 29 (.agg #[.int .u32 g.ta, .int .i64 g.tp]) (.agg #[.int .u32 2, .int .i64 80])).run Try.prog W = .ok false W))
            have HD := Lib.hid (HD2.out hto)
            have HIN := Lib.hid (fun (W : World) (gs : Nat) (h : MemX noE w W (atR gs 33 (cSeg g) :: prR gp ga gb va2 xq :: arR va2 xq.air :: (cnH ga gia gwa xa ka ++ (cnH gb gib gwb xb kb ++ [atR go 29 [.int .u32 a4a, .int .i64 a4b]])))) => (inF [atR gs 33 (cSeg g), prR gp ga gb va2 xq, arR va2 xq.air] (cnH gb gib gwb xb kb ++ [atR go 29 [.int .u32 a4a, .int .i64 a4b]]) h HOK.out.1 HCI.out.1 (by decide) g HGS.out : Calls Try.prog 19 #[.pointer (some ⟨ga, 0, none⟩), .agg (cSeg g).toArray] W fun e W' => ∃ gi' gw' k', e = .returned (.int .i64 (cInE xa g)) ∧ MemX noE w W' (atR gs 33 (cSeg g) :: prR gp ga gb va2 xq :: arR va2 xq.air :: (cnH ga gi' gw' (cIn xa g) k' ++ (cnH gb gib gwb xb kb ++ [atR go 29 [.int .u32 a4a, .int .i64 a4b]]))) ∧ KOk k' gi' gw' (cIn xa g).h))
            clear hto HD1 HD2
            go_upto_region 10 with (fail)
            refine wp_region_M [0,1] [] hM (by kernel_rfl) ?_
            clear hM
            intro wo hM
            refine wpI_takeP (i := 0) (v := ?_) rfl (by kernel_rfl) (by kernel_rfl) (by kernel_rfl) (by first | exact fun _ _ _ h => h | exact fun _ _ _ h => HQ0.out _ _ _ _ _ h) (Or.inl ⟨by rfl, ?hy⟩) ?_
            case hy => (intro W; go_simp; (try with_reducible rfl))
            simp only [Act.put, zA, zB, zC, zD, zE, zF]
            refine wpI_take (i := 1) (v := .agg #[.int .u32 g.ta, .int .i64 g.tp]) rfl (by kernel_rfl) (by kernel_rfl) (by kernel_rfl) (by kernel_rfl) (by first | exact fun _ _ _ h => h | exact fun _ _ _ h => HQ0.out _ _ _ _ _ h) ⟨fun r hr => hM.get 0 hr, fun r hr => hM.get 1 hr, trivial⟩ (Or.inl ⟨by rfl, ?hy⟩) ?_
            case hy => (rintro W ⟨i0, i1, -⟩; have c0 := (show At W _ _ _ from i0 _ rfl).cell; have c1 := (show At W _ _ _ from i1 _ rfl).cell; (try simp only [cSeg,prC] at c0 c1); exact exec_loadw _ _ rfl gs 2 rfl [.int .u32 g.ta, .int .i64 g.tp] _ Try.underlying29 rfl sz_End (range_sub (cs := cSeg g) c0 2 _ rfl))
            simp only [Act.put, zA, zB, zC, zD, zE, zF]
            refine wpI_takeP (i := 2) (v := ?_) rfl (by kernel_rfl) (by kernel_rfl) (by kernel_rfl) (by first | exact fun _ _ _ h => h | exact fun _ _ _ h => HQ0.out _ _ _ _ _ h) (Or.inl ⟨by rfl, ?hy⟩) ?_
            case hy => (intro W; go_simp; (try with_reducible rfl))
            simp only [Act.put, zA, zB, zC, zD, zE, zF]
            refine wpI_takeP (i := 3) (v := ?_) rfl (by kernel_rfl) (by kernel_rfl) (by kernel_rfl) (by first | exact fun _ _ _ h => h | exact fun _ _ _ h => HQ0.out _ _ _ _ _ h) (Or.inl ⟨by rfl, ?hy⟩) ?_
            case hy => (intro W; go_simp; (try with_reducible rfl))
            simp only [Act.put, zA, zB, zC, zD, zE, zF]
            refine wpI_takeP (i := 4) (v := ?_) rfl (by kernel_rfl) (by kernel_rfl) (by kernel_rfl) (by first | exact fun _ _ _ h => h | exact fun _ _ _ h => HQ0.out _ _ _ _ _ h) (Or.inl ⟨by rfl, ?hy⟩) ?_
            case hy => (intro W; go_simp; (try with_reducible rfl))
            simp only [Act.put, zA, zB, zC, zD, zE, zF]
            refine wpI_takeP (i := 5) (v := ?_) rfl (by kernel_rfl) (by kernel_rfl) (by kernel_rfl) (by first | exact fun _ _ _ h => h | exact fun _ _ _ h => HQ0.out _ _ _ _ _ h) (Or.inl ⟨by rfl, ?hy⟩) ?_
            case hy => (intro W; go_simp; (try with_reducible rfl))
            simp only [Act.put, zA, zB, zC, zD, zE, zF]
            refine wpI_take (i := 6) (v := .agg #[.int .u32 2, .int .i64 80]) rfl (by kernel_rfl) (by kernel_rfl) (by kernel_rfl) (by kernel_rfl) (by first | exact fun _ _ _ h => h | exact fun _ _ _ h => HQ0.out _ _ _ _ _ h) ⟨fun r hr => hM.get 0 hr, fun r hr => hM.get 1 hr, trivial⟩ (Or.inl ⟨by rfl, ?hy⟩) ?_
            case hy => (rintro W ⟨i0, i1, -⟩; have c0 := (show At W _ _ _ from i0 _ rfl).cell; have c1 := (show At W _ _ _ from i1 _ rfl).cell; (try simp only [cSeg,prC] at c0 c1); exact exec_loadw _ _ rfl gp 4 rfl [.int .u32 2, .int .i64 80] _ Try.underlying29 rfl sz_End (range_sub (cs := prC ga gb va2 xq) c1 4 _ rfl))
            simp only [Act.put, zA, zB, zC, zD, zE, zF]
            refine wpI_takeP (i := 7) rfl (by kernel_rfl) (by kernel_rfl) (by kernel_rfl) (by first | exact fun _ _ _ h => h | exact fun _ _ _ h => HQ0.out _ _ _ _ _ h) ((.inl ⟨by rfl, fun w => exec_eqs _ _ _ _ rfl _ _ rfl rfl eg_End _ HEQ.out w⟩)) ?_
            simp only [Act.put, zA, zB, zC, zD, zE, zF]
            (try simp only [Bool.not_true, Bool.not_false])
            refine wpI_done (by kernel_rfl) ?_ _
            (try simp only [Act.put, zA, zB, zC, zD, zE, zF])
            go_upto_region 12 with (fail)
            refine wp_region_M [0,1] [] hM (by kernel_rfl) ?_
            clear hM
            intro wo hM
            refine wpI_takeP (i := 0) (v := ?_) rfl (by kernel_rfl) (by kernel_rfl) (by kernel_rfl) (by first | exact fun _ _ _ h => h | exact fun _ _ _ h => HQ0.out _ _ _ _ _ h) (Or.inl ⟨by rfl, ?hy⟩) ?_
            case hy => (intro W; go_simp; (try with_reducible rfl))
            simp only [Act.put, zA, zB, zC, zD, zE, zF]
            refine wpI_takeP (i := 1) (v := ?_) rfl (by kernel_rfl) (by kernel_rfl) (by kernel_rfl) (by first | exact fun _ _ _ h => h | exact fun _ _ _ h => HQ0.out _ _ _ _ _ h) (Or.inl ⟨by rfl, ?hy⟩) ?_
            case hy => (intro W; go_simp; (try with_reducible rfl))
            simp only [Act.put, zA, zB, zC, zD, zE, zF]
            refine wpI_takeP (i := 2) (v := ?_) rfl (by kernel_rfl) (by kernel_rfl) (by kernel_rfl) (by first | exact fun _ _ _ h => h | exact fun _ _ _ h => HQ0.out _ _ _ _ _ h) (Or.inl ⟨by rfl, ?hy⟩) ?_
            case hy => (intro W; go_simp; (try with_reducible rfl))
            simp only [Act.put, zA, zB, zC, zD, zE, zF]
            refine wpI_takeP (i := 3) (v := ?_) rfl (by kernel_rfl) (by kernel_rfl) (by kernel_rfl) (by first | exact fun _ _ _ h => h | exact fun _ _ _ h => HQ0.out _ _ _ _ _ h) (Or.inl ⟨by rfl, ?hy⟩) ?_
            case hy => (intro W; go_simp; (try with_reducible rfl))
            simp only [Act.put, zA, zB, zC, zD, zE, zF]
            refine wpI_takeP (i := 4) (v := ?_) rfl (by kernel_rfl) (by kernel_rfl) (by kernel_rfl) (by first | exact fun _ _ _ h => h | exact fun _ _ _ h => HQ0.out _ _ _ _ _ h) (Or.inl ⟨by rfl, ?hy⟩) ?_
            case hy => (intro W; go_simp; (try with_reducible rfl))
            simp only [Act.put, zA, zB, zC, zD, zE, zF]
            refine wpI_take (i := 5) (v := ?_) rfl (by kernel_rfl) (by kernel_rfl) (by kernel_rfl) (by kernel_rfl) (by first | exact fun _ _ _ h => h | exact fun _ _ _ h => HQ0.out _ _ _ _ _ h) ⟨fun r hr => hM.get 0 hr, fun r hr => hM.get 1 hr, trivial⟩ (Or.inl ⟨by rfl, ?hy⟩) ?_
            case hy => (rintro W ⟨i0, i1, -⟩; have c0 := (show At W _ _ _ from i0 _ rfl).cell; have c1 := (show At W _ _ _ from i1 _ rfl).cell; (try simp only [cSeg,prC] at c0 c1); go_simp; (try with_reducible rfl))
            simp only [Act.put, zA, zB, zC, zD, zE, zF]
            refine wpI_take (i := 6) (v := .agg (cSeg g).toArray) rfl (by kernel_rfl) (by kernel_rfl) (by kernel_rfl) (by kernel_rfl) (by first | exact fun _ _ _ h => h | exact fun _ _ _ h => HQ0.out _ _ _ _ _ h) ⟨fun r hr => hM.get 0 hr, fun r hr => hM.get 1 hr, trivial⟩ (Or.inl ⟨by rfl, ?hy⟩) ?_
            case hy => (rintro W ⟨i0, i1, -⟩; have c0 := (show At W _ _ _ from i0 _ rfl).cell; have c1 := (show At W _ _ _ from i1 _ rfl).cell; (try simp only [cSeg,prC] at c0 c1); exact exec_loadw _ _ rfl gs 0 rfl (cSeg g) _ Try.underlying33 rfl sz_Seg (range_cells c0))
            simp only [Act.put, zA, zB, zC, zD, zE, zF]
            refine wpI_one (i := 7) rfl (by kernel_rfl) ?_
            (try simp only [Act.put, zA, zB, zC, zD, zE, zF])
            go_wp2_with (first
                | go_skip
                | ((go_at_call 19; refine (HIN.out _ gs hM).mono ?_; clear hM; rintro e W ⟨gi4, gw4, k4, rfl, hM, hK⟩; have HK4 := Lib.hid hK; clear hK; dsimp only))
                | ((with_reducible refine at_box_ ?_); refine wpList_box_mem rfl _ _ rfl _ rfl hM ?_; clear hM; intro gb W hM; first | (simp only [List.nil_append] at hM) | (simp only [List.cons_append, List.nil_append] at hM)))
            refine contI_normal ⟨fun r hr => hM.get 0 hr, fun r hr => hM.get 1 hr, trivial⟩ ?_
            (try simp only [Act.put, zA, zB, zC, zD, zE, zF])
            refine wpI_done (by kernel_rfl) ?_ _
            (try simp only [Act.put, zA, zB, zC, zD, zE, zF])
            (go_wp2_with fail)
            replace hM := (show MemX noE w W ([_] ++ _) from hM).drop_
            go_roundg 0
            case measure => have := HGJ2.out; omega
            case rel => exact ⟨⟨cIn xa g, xb, xq⟩, gi4, gw4, gib, gwb, k4, kb, va2, by rw [HXQ.out]; rfl, hM, Lib.hid ⟨.inr (by rw [HD.out, HXQ.out]), HK4.out, HOK.out.2⟩⟩
    · obtain rfl : t = 6 := by omega
      clear ht h6 HGH HS
      replace hM := (show MemX noE w wr (prR gp ga gb va (pa2 iss irs) :: arR va (pa2 iss irs).air :: (cnH ga gia gwa (eA iss irs false) ka ++ (cnH gb gib gwb (eB iss irs) kb ++ [atR go 29 [.int .u32 a4a, .int .i64 a4b]]))) from hM)
      have HKA := Lib.hid (show KOk ka gia gwa (eA iss irs false).h from HOK.out.1)
      have HCA := Lib.hid (show CI (eA iss irs false) 1 from (bl_ci 2 HI.out HJ.out).1)
      have HST := Lib.hid (fun (W : World) (h : MemX noE w W (prR gp ga gb va (pa2 iss irs) :: arR va (pa2 iss irs).air :: (cnH ga gia gwa (eA iss irs false) ka ++ (cnH gb gib gwb (eB iss irs) kb ++ [atR go 29 [.int .u32 a4a, .int .i64 a4b]])))) => (stateF [prR gp ga gb va (pa2 iss irs), arR va (pa2 iss irs).air] (cnH gb gib gwb (eB iss irs) kb ++ [atR go 29 [.int .u32 a4a, .int .i64 a4b]]) h : Calls Try.prog 16 #[.pointer (some ⟨ga, 0, none⟩)] W fun e W' => e = .returned (.int .i64 3) ∧ W = W'))
      clear HOK
      go_upto_region 20 with (first | go_skip | ((with_reducible refine at_load_ ?_); refine at_wanted_ (by rfl) ?_; first | (refine wpList_loadf_mem (by go_simp) _ _ rfl (by kernel_rfl) 0 _ _ _ _ _ hM rfl rfl rfl ?_)) | (go_at_call 16; refine (HST.out _ hM).mono ?_; rintro e W ⟨rfl, rfl⟩; dsimp only) | (go_at_call 13; refine (HR.out _).mono ?_; rintro e W ⟨rfl, rfl⟩; dsimp only))
      clear HST HR
      refine wp_region_M [0] [14] hM (by kernel_rfl) ?_
      clear hM
      intro wo hM
      refine wpI_takeP (i := 0) (v := ?_) rfl (by kernel_rfl) (by kernel_rfl) (by kernel_rfl) (by first | exact fun _ _ _ h => h | exact fun _ _ _ h => HQ0.out _ _ _ _ _ h) (Or.inl ⟨by rfl, ?hy⟩) ?_
      case hy => (intro W; go_simp; (try with_reducible rfl))
      simp only [Act.put, zA, zB, zC, zD, zE, zF]
      refine wpI_takeP (i := 1) (v := ?_) rfl (by kernel_rfl) (by kernel_rfl) (by kernel_rfl) (by first | exact fun _ _ _ h => h | exact fun _ _ _ h => HQ0.out _ _ _ _ _ h) (Or.inl ⟨by rfl, ?hy⟩) ?_
      case hy => (intro W; go_simp; (try with_reducible rfl))
      simp only [Act.put, zA, zB, zC, zD, zE, zF]
      refine wpI_takeP (i := 2) (v := ?_) rfl (by kernel_rfl) (by kernel_rfl) (by kernel_rfl) (by first | exact fun _ _ _ h => h | exact fun _ _ _ h => HQ0.out _ _ _ _ _ h) (Or.inl ⟨by rfl, ?hy⟩) ?_
      case hy => (intro W; go_simp; (try with_reducible rfl))
      simp only [Act.put, zA, zB, zC, zD, zE, zF]
      refine wpI_takeP (i := 3) (v := ?_) rfl (by kernel_rfl) (by kernel_rfl) (by kernel_rfl) (by first | exact fun _ _ _ h => h | exact fun _ _ _ h => HQ0.out _ _ _ _ _ h) (Or.inl ⟨by rfl, ?hy⟩) ?_
      case hy => (intro W; go_simp; (try with_reducible rfl))
      simp only [Act.put, zA, zB, zC, zD, zE, zF]
      refine wpI_take (i := 4) (v := .agg #[.int .u32 2, .int .i64 80]) rfl (by kernel_rfl) (by kernel_rfl) (by kernel_rfl) (by kernel_rfl) (by first | exact fun _ _ _ h => h | exact fun _ _ _ h => HQ0.out _ _ _ _ _ h) ⟨fun r hr => (by first | exact hM.get 0 hr | exact hM.get 1 hr), trivial⟩ (Or.inl ⟨by rfl, ?hy⟩) ?_
      case hy => (rintro W ⟨i0, -⟩; have c0 := (show At W _ _ _ from i0 _ rfl).cell; (try simp only [prC] at c0); exact exec_loadw _ _ rfl gp 4 rfl [.int .u32 2, .int .i64 80] _ Try.underlying29 rfl sz_End (range_sub (cs := prC ga gb va (pa2 iss irs)) c0 4 _ rfl))
      simp only [Act.put, zA, zB, zC, zD, zE, zF]
      refine wpI_takeP (i := 5) (v := ?_) rfl (by kernel_rfl) (by kernel_rfl) (by kernel_rfl) (by first | exact fun _ _ _ h => h | exact fun _ _ _ h => HQ0.out _ _ _ _ _ h) (Or.inl ⟨by rfl, ?hy⟩) ?_
      case hy => (intro W; go_simp; (try with_reducible rfl))
      simp only [Act.put, zA, zB, zC, zD, zE, zF]
      refine wpI_takeP (i := 6) (v := ?_) rfl (by kernel_rfl) (by kernel_rfl) (by kernel_rfl) (by first | exact fun _ _ _ h => h | exact fun _ _ _ h => HQ0.out _ _ _ _ _ h) (Or.inl ⟨by rfl, ?hy⟩) ?_
      case hy => (intro W; go_simp; (try with_reducible rfl))
      simp only [Act.put, zA, zB, zC, zD, zE, zF]
      refine wpI_takeP (i := 7) (v := ?_) rfl (by kernel_rfl) (by kernel_rfl) (by kernel_rfl) (by first | exact fun _ _ _ h => h | exact fun _ _ _ h => HQ0.out _ _ _ _ _ h) (Or.inl ⟨by rfl, ?hy⟩) ?_
      case hy => (intro W; go_simp; (try with_reducible rfl))
      simp only [Act.put, zA, zB, zC, zD, zE, zF]
      refine wpI_takeP (i := 8) (v := ?_) rfl (by kernel_rfl) (by kernel_rfl) (by kernel_rfl) (by first | exact fun _ _ _ h => h | exact fun _ _ _ h => HQ0.out _ _ _ _ _ h) (Or.inl ⟨by rfl, ?hy⟩) ?_
      case hy => (intro W; go_simp; (try with_reducible rfl))
      simp only [Act.put, zA, zB, zC, zD, zE, zF]
      refine wpI_take (i := 9) (v := .agg #[.int .u32 1, .int .i64 40000]) rfl (by kernel_rfl) (by kernel_rfl) (by kernel_rfl) (by kernel_rfl) (by first | exact fun _ _ _ h => h | exact fun _ _ _ h => HQ0.out _ _ _ _ _ h) ⟨fun r hr => (by first | exact hM.get 0 hr | exact hM.get 1 hr), trivial⟩ (Or.inl ⟨by rfl, ?hy⟩) ?_
      case hy => (rintro W ⟨i0, -⟩; have c0 := (show At W _ _ _ from i0 _ rfl).cell; (try simp only [prC] at c0); exact exec_loadw _ _ rfl gp 2 rfl [.int .u32 1, .int .i64 40000] _ Try.underlying29 rfl sz_End (range_sub (cs := prC ga gb va (pa2 iss irs)) c0 2 _ rfl))
      simp only [Act.put, zA, zB, zC, zD, zE, zF]
      refine wpI_takeP (i := 10) (v := ?_) rfl (by kernel_rfl) (by kernel_rfl) (by kernel_rfl) (by first | exact fun _ _ _ h => h | exact fun _ _ _ h => HQ0.out _ _ _ _ _ h) (Or.inl ⟨by rfl, ?hy⟩) ?_
      case hy => (intro W; go_simp; (try with_reducible rfl))
      simp only [Act.put, zA, zB, zC, zD, zE, zF]
      refine wpI_takeP (i := 11) (v := ?_) rfl (by kernel_rfl) (by kernel_rfl) (by kernel_rfl) (by first | exact fun _ _ _ h => h | exact fun _ _ _ h => HQ0.out _ _ _ _ _ h) (Or.inl ⟨by rfl, ?hy⟩) ?_
      case hy => (intro W; go_simp; (try with_reducible rfl))
      simp only [Act.put, zA, zB, zC, zD, zE, zF]
      refine wpI_takeP (i := 12) (v := ?_) rfl (by kernel_rfl) (by kernel_rfl) (by kernel_rfl) (by first | exact fun _ _ _ h => h | exact fun _ _ _ h => HQ0.out _ _ _ _ _ h) (Or.inl ⟨by rfl, ?hy⟩) ?_
      case hy => (intro W; go_simp; (try with_reducible rfl))
      simp only [Act.put, zA, zB, zC, zD, zE, zF]
      refine wpI_one (i := 13) rfl (by kernel_rfl) ?_
      (try simp only [Act.put, zA, zB, zC, zD, zE, zF])
      go_wp2_with (first
          | go_skip
          | (((with_reducible refine at_alloc_ (T := 33) ?_); refine wpList_alloc_mem rfl 33 rfl _ zv_Seg _ rfl hM ?_; clear hM; intro gs W hM; replace hM := cn_last hM))
          | (((with_reducible refine at_store_ (T := 33) ?_); refine wpList_store_mem rfl 33 _ _ rfl 0 _ _ _ (cSeg (gR 2 80 n win)) hM rfl rfl rfl rfl sz_Seg rfl ?_; clear hM; intro W hM; simp only [List.cons_append, zE] at hM))
          | ((with_reducible refine at_box_ ?_); refine wpList_box_mem rfl _ _ rfl _ rfl hM ?_; clear hM; intro gb W hM; first | (simp only [List.nil_append] at hM) | (simp only [List.cons_append, List.nil_append] at hM)))
      refine contI_normal ⟨fun r hr => (by first | exact hM.get 0 hr | exact hM.get 1 hr), trivial⟩ ?_
      (try simp only [Act.put, zA, zB, zC, zD, zE, zF])
      refine wpI_one (i := 14) rfl (by kernel_rfl) ?_
      (try simp only [Act.put, zA, zB, zC, zD, zE, zF])
      go_wp2_with (first
          | go_skip
          | (((with_reducible refine at_alloc_ (T := 33) ?_); refine wpList_alloc_mem rfl 33 rfl _ zv_Seg _ rfl hM ?_; clear hM; intro gs W hM; replace hM := cn_last hM))
          | (((with_reducible refine at_store_ (T := 33) ?_); refine wpList_store_mem rfl 33 _ _ rfl 0 _ _ _ (cSeg (gR 2 80 n win)) hM rfl rfl rfl rfl sz_Seg rfl ?_; clear hM; intro W hM; simp only [List.cons_append, zE] at hM))
          | ((with_reducible refine at_box_ ?_); refine wpList_box_mem rfl _ _ rfl _ rfl hM ?_; clear hM; intro gb W hM; first | (simp only [List.nil_append] at hM) | (simp only [List.cons_append, List.nil_append] at hM)))
      refine contI_late (by decide) ?_
      (try simp only [Act.put, zA, zB, zC, zD, zE, zF])
      refine wpI_done (by kernel_rfl) ?_ _
      (try simp only [Act.put, zA, zB, zC, zD, zE, zF])
      have HGR := Lib.hid (ok_gR (fa := 2) (fp := 80) (n := n) (win := win) (by decide) (by decide) HN.out HW.out)
      have hr1 := in_rst (iss := iss) (irs := irs) (o := false) (n := n) (win := win) HW.out
      by_cases hn : n = u32 (irs + 1)
      · have tn : (n == (irs + 1) % 4294967296) = true := by rw [hn]; exact beq_self_eq_true _
        have h12 := hr1.2.1 hn
        obtain ⟨c1, hc1⟩ : ∃ z, z = cIn (eA iss irs false) (gR 2 80 n win) := ⟨_, rfl⟩
        rw [← hc1] at h12
        have HC1 := Lib.hid hc1
        have HIN := Lib.hid (fun (W : World) (gs : Nat) (h : MemX noE w W (atR gs 33 (cSeg (gR 2 80 n win)) :: prR gp ga gb va (pa2 iss irs) :: arR va (pa2 iss irs).air :: (cnH ga gia gwa (eA iss irs false) ka ++ (cnH gb gib gwb (eB iss irs) kb ++ [atR go 29 [.int .u32 a4a, .int .i64 a4b]])))) => (by
          have h2 := inF [atR gs 33 (cSeg (gR 2 80 n win)), prR gp ga gb va (pa2 iss irs), arR va (pa2 iss irs).air] (cnH gb gib gwb (eB iss irs) kb ++ [atR go 29 [.int .u32 a4a, .int .i64 a4b]]) h HKA.out HCA.out (by decide) (gR 2 80 n win) HGR.out
          rw [hr1.1, ← HC1.out] at h2
          exact h2 : Calls Try.prog 19 #[.pointer (some ⟨ga, 0, none⟩), .agg (cSeg (gR 2 80 n win)).toArray] W fun e W' => ∃ gi' gw' k', e = .returned (.int .i64 0) ∧ MemX noE w W' (atR gs 33 (cSeg (gR 2 80 n win)) :: prR gp ga gb va (pa2 iss irs) :: arR va (pa2 iss irs).air :: (cnH ga gi' gw' c1 k' ++ (cnH gb gib gwb (eB iss irs) kb ++ [atR go 29 [.int .u32 a4a, .int .i64 a4b]]))) ∧ KOk k' gi' gw' c1.h))
        have HST := Lib.hid (fun (W : World) (gs gi gw : Nat) (k : KPt) (h : MemX noE w W (atR gs 33 (cSeg (gR 2 80 n win)) :: prR gp ga gb va (pa2 iss irs) :: arR va (pa2 iss irs).air :: (cnH ga gi gw c1 k ++ (cnH gb gib gwb (eB iss irs) kb ++ [atR go 29 [.int .u32 a4a, .int .i64 a4b]])))) => (by
          have h2 := stateF [atR gs 33 (cSeg (gR 2 80 n win)), prR gp ga gb va (pa2 iss irs), arR va (pa2 iss irs).air] (cnH gb gib gwb (eB iss irs) kb ++ [atR go 29 [.int .u32 a4a, .int .i64 a4b]]) h
          rw [h12.1] at h2
          exact h2 : Calls Try.prog 16 #[.pointer (some ⟨ga, 0, none⟩)] W fun e W' => e = .returned (.int .i64 0) ∧ W = W'))
        have HWY := Lib.hid (fun (W : World) (gs gi gw : Nat) (k : KPt) (h : MemX noE w W (atR gs 33 (cSeg (gR 2 80 n win)) :: prR gp ga gb va (pa2 iss irs) :: arR va (pa2 iss irs).air :: (cnH ga gi gw c1 k ++ (cnH gb gib gwb (eB iss irs) kb ++ [atR go 29 [.int .u32 a4a, .int .i64 a4b]])))) => (by
          have h2 := whyF [atR gs 33 (cSeg (gR 2 80 n win)), prR gp ga gb va (pa2 iss irs), arR va (pa2 iss irs).air] (cnH gb gib gwb (eB iss irs) kb ++ [atR go 29 [.int .u32 a4a, .int .i64 a4b]]) h
          rw [h12.2] at h2
          exact h2 : Calls Try.prog 17 #[.pointer (some ⟨ga, 0, none⟩)] W fun e W' => e = .returned (.int .i64 12) ∧ W = W'))
        clear hr1 hn h12 hc1
        go_wp2_with (first | go_skip | ((with_reducible refine at_load_ (T := 33) ?_); refine wpList_loadg_mem (by go_simp) 33 _ rfl 0 _ _ _ hM rfl rfl _ Try.underlying33 rfl sz_Seg ?_) | (go_at_call 19; refine (HIN.out _ gs hM).mono ?_; clear hM; rintro e W ⟨gi4, gw4, k4, rfl, hM, hK⟩; have HK4 := Lib.hid hK; clear hK; dsimp only) | (go_at_call 16; refine (HST.out _ _ _ _ _ hM).mono ?_; rintro e W ⟨rfl, rfl⟩; dsimp only) | (go_at_call 17; refine (HWY.out _ _ _ _ _ hM).mono ?_; rintro e W ⟨rfl, rfl⟩; dsimp only))
        go_ret
        exact ⟨rfl, hM.b⟩
      · have tn : (n == (irs + 1) % 4294967296) = false := by
          have : n ≠ (irs + 1) % 4294967296 := hn
          simpa using this
        obtain ⟨o1, ho1⟩ := hr1.2.2 hn
        have CA1 := Lib.hid (ci_eA HCA.out (by decide) HGR.out ho1)
        have HO1 := Lib.hid ho1
        have HE1 := Lib.hid hr1.1
        have hr2 := in_syn3 (iss := iss) (irs := irs) (o := o1) (n := n) (win := win) HW.out
        obtain ⟨he2, o2, ho2⟩ := hr2
        have HGY := Lib.hid (ok_gY (n := n) (win := win) HN.out HW.out)
        have CA2 := Lib.hid (ci_eA CA1.out (by decide) HGY.out ho2)
        have HO2 := Lib.hid ho2
        have HE2 := Lib.hid he2
        clear hr1 hn ho1 ho2 he2
        have HIN := Lib.hid (fun (W : World) (gs gi gw : Nat) (k : KPt) (h : MemX noE w W (atR gs 33 (cSeg (gR 2 80 n win)) :: prR gp ga gb va (pa2 iss irs) :: arR va (pa2 iss irs).air :: (cnH ga gi gw (eA iss irs false) k ++ (cnH gb gib gwb (eB iss irs) kb ++ [atR go 29 [.int .u32 a4a, .int .i64 a4b]])))) (hk : KOk k gi gw (eA iss irs false).h) => (by
          have h2 := inF [atR gs 33 (cSeg (gR 2 80 n win)), prR gp ga gb va (pa2 iss irs), arR va (pa2 iss irs).air] (cnH gb gib gwb (eB iss irs) kb ++ [atR go 29 [.int .u32 a4a, .int .i64 a4b]]) h hk HCA.out (by decide) (gR 2 80 n win) HGR.out
          rw [HE1.out, HO1.out] at h2
          exact h2 : Calls Try.prog 19 #[.pointer (some ⟨ga, 0, none⟩), .agg (cSeg (gR 2 80 n win)).toArray] W fun e W' => ∃ gi' gw' k', e = .returned (.int .i64 0) ∧ MemX noE w W' (atR gs 33 (cSeg (gR 2 80 n win)) :: prR gp ga gb va (pa2 iss irs) :: arR va (pa2 iss irs).air :: (cnH ga gi' gw' (eA iss irs o1) k' ++ (cnH gb gib gwb (eB iss irs) kb ++ [atR go 29 [.int .u32 a4a, .int .i64 a4b]]))) ∧ KOk k' gi' gw' (eA iss irs o1).h))
        have HST := Lib.hid (fun (W : World) (gs gi gw : Nat) (k : KPt) (h : MemX noE w W (atR gs 33 (cSeg (gR 2 80 n win)) :: prR gp ga gb va (pa2 iss irs) :: arR va (pa2 iss irs).air :: (cnH ga gi gw (eA iss irs o1) k ++ (cnH gb gib gwb (eB iss irs) kb ++ [atR go 29 [.int .u32 a4a, .int .i64 a4b]])))) => (stateF [atR gs 33 (cSeg (gR 2 80 n win)), prR gp ga gb va (pa2 iss irs), arR va (pa2 iss irs).air] (cnH gb gib gwb (eB iss irs) kb ++ [atR go 29 [.int .u32 a4a, .int .i64 a4b]]) h : Calls Try.prog 16 #[.pointer (some ⟨ga, 0, none⟩)] W fun e W' => e = .returned (.int .i64 3) ∧ W = W'))
        go_upto_region 25 with (first | go_skip | ((with_reducible refine at_load_ (T := 33) ?_); refine wpList_loadg_mem (by go_simp) 33 _ rfl 0 _ _ _ hM rfl rfl _ Try.underlying33 rfl sz_Seg ?_) | (go_at_call 19; refine (HIN.out _ gs _ _ _ hM HKA.out).mono ?_; clear hM; rintro e W ⟨gi4, gw4, k4, rfl, hM, hK⟩; have HK4 := Lib.hid hK; clear hK; dsimp only) | (go_at_call 16; refine (HST.out _ _ _ _ _ hM).mono ?_; rintro e W ⟨rfl, rfl⟩; dsimp only))
        clear HIN HST
        refine wp_region_M [1] [13] hM (by kernel_rfl) ?_
        clear hM
        intro wo hM
        refine wpI_takeP (i := 0) (v := ?_) rfl (by kernel_rfl) (by kernel_rfl) (by kernel_rfl) (by first | exact fun _ _ _ h => h | exact fun _ _ _ h => HQ0.out _ _ _ _ _ h) (Or.inl ⟨by rfl, ?hy⟩) ?_
        case hy => (intro W; go_simp; (try with_reducible rfl))
        simp only [Act.put, zA, zB, zC, zD, zE, zF]
        refine wpI_takeP (i := 1) (v := ?_) rfl (by kernel_rfl) (by kernel_rfl) (by kernel_rfl) (by first | exact fun _ _ _ h => h | exact fun _ _ _ h => HQ0.out _ _ _ _ _ h) (Or.inl ⟨by rfl, ?hy⟩) ?_
        case hy => (intro W; go_simp; (try with_reducible rfl))
        simp only [Act.put, zA, zB, zC, zD, zE, zF]
        refine wpI_takeP (i := 2) (v := ?_) rfl (by kernel_rfl) (by kernel_rfl) (by kernel_rfl) (by first | exact fun _ _ _ h => h | exact fun _ _ _ h => HQ0.out _ _ _ _ _ h) (Or.inl ⟨by rfl, ?hy⟩) ?_
        case hy => (intro W; go_simp; (try with_reducible rfl))
        simp only [Act.put, zA, zB, zC, zD, zE, zF]
        refine wpI_takeP (i := 3) (v := ?_) rfl (by kernel_rfl) (by kernel_rfl) (by kernel_rfl) (by first | exact fun _ _ _ h => h | exact fun _ _ _ h => HQ0.out _ _ _ _ _ h) (Or.inl ⟨by rfl, ?hy⟩) ?_
        case hy => (intro W; go_simp; (try with_reducible rfl))
        simp only [Act.put, zA, zB, zC, zD, zE, zF]
        refine wpI_take (i := 4) (v := .agg #[.int .u32 2, .int .i64 80]) rfl (by kernel_rfl) (by kernel_rfl) (by kernel_rfl) (by kernel_rfl) (by first | exact fun _ _ _ h => h | exact fun _ _ _ h => HQ0.out _ _ _ _ _ h) ⟨fun r hr => hM.get 1 hr, trivial⟩ (Or.inl ⟨by rfl, ?hy⟩) ?_
        case hy => (rintro W ⟨i1, -⟩; have c1 := (show At W _ _ _ from i1 _ rfl).cell; (try simp only [prC] at c1); exact exec_loadw _ _ rfl gp 4 rfl [.int .u32 2, .int .i64 80] _ Try.underlying29 rfl sz_End (range_sub (cs := prC ga gb va (pa2 iss irs)) c1 4 _ rfl))
        simp only [Act.put, zA, zB, zC, zD, zE, zF]
        refine wpI_takeP (i := 5) (v := ?_) rfl (by kernel_rfl) (by kernel_rfl) (by kernel_rfl) (by first | exact fun _ _ _ h => h | exact fun _ _ _ h => HQ0.out _ _ _ _ _ h) (Or.inl ⟨by rfl, ?hy⟩) ?_
        case hy => (intro W; go_simp; (try with_reducible rfl))
        simp only [Act.put, zA, zB, zC, zD, zE, zF]
        refine wpI_takeP (i := 6) (v := ?_) rfl (by kernel_rfl) (by kernel_rfl) (by kernel_rfl) (by first | exact fun _ _ _ h => h | exact fun _ _ _ h => HQ0.out _ _ _ _ _ h) (Or.inl ⟨by rfl, ?hy⟩) ?_
        case hy => (intro W; go_simp; (try with_reducible rfl))
        simp only [Act.put, zA, zB, zC, zD, zE, zF]
        refine wpI_takeP (i := 7) (v := ?_) rfl (by kernel_rfl) (by kernel_rfl) (by kernel_rfl) (by first | exact fun _ _ _ h => h | exact fun _ _ _ h => HQ0.out _ _ _ _ _ h) (Or.inl ⟨by rfl, ?hy⟩) ?_
        case hy => (intro W; go_simp; (try with_reducible rfl))
        simp only [Act.put, zA, zB, zC, zD, zE, zF]
        refine wpI_takeP (i := 8) (v := ?_) rfl (by kernel_rfl) (by kernel_rfl) (by kernel_rfl) (by first | exact fun _ _ _ h => h | exact fun _ _ _ h => HQ0.out _ _ _ _ _ h) (Or.inl ⟨by rfl, ?hy⟩) ?_
        case hy => (intro W; go_simp; (try with_reducible rfl))
        simp only [Act.put, zA, zB, zC, zD, zE, zF]
        refine wpI_take (i := 9) (v := .agg #[.int .u32 1, .int .i64 40000]) rfl (by kernel_rfl) (by kernel_rfl) (by kernel_rfl) (by kernel_rfl) (by first | exact fun _ _ _ h => h | exact fun _ _ _ h => HQ0.out _ _ _ _ _ h) ⟨fun r hr => hM.get 1 hr, trivial⟩ (Or.inl ⟨by rfl, ?hy⟩) ?_
        case hy => (rintro W ⟨i1, -⟩; have c1 := (show At W _ _ _ from i1 _ rfl).cell; (try simp only [prC] at c1); exact exec_loadw _ _ rfl gp 2 rfl [.int .u32 1, .int .i64 40000] _ Try.underlying29 rfl sz_End (range_sub (cs := prC ga gb va (pa2 iss irs)) c1 2 _ rfl))
        simp only [Act.put, zA, zB, zC, zD, zE, zF]
        refine wpI_takeP (i := 10) (v := ?_) rfl (by kernel_rfl) (by kernel_rfl) (by kernel_rfl) (by first | exact fun _ _ _ h => h | exact fun _ _ _ h => HQ0.out _ _ _ _ _ h) (Or.inl ⟨by rfl, ?hy⟩) ?_
        case hy => (intro W; go_simp; (try with_reducible rfl))
        simp only [Act.put, zA, zB, zC, zD, zE, zF]
        refine wpI_takeP (i := 11) (v := ?_) rfl (by kernel_rfl) (by kernel_rfl) (by kernel_rfl) (by first | exact fun _ _ _ h => h | exact fun _ _ _ h => HQ0.out _ _ _ _ _ h) (Or.inl ⟨by rfl, ?hy⟩) ?_
        case hy => (intro W; go_simp; (try with_reducible rfl))
        simp only [Act.put, zA, zB, zC, zD, zE, zF]
        refine wpI_takeP (i := 12) (v := ?_) rfl (by kernel_rfl) (by kernel_rfl) (by kernel_rfl) (by first | exact fun _ _ _ h => h | exact fun _ _ _ h => HQ0.out _ _ _ _ _ h) (Or.inl ⟨by rfl, ?hy⟩) ?_
        case hy => (intro W; go_simp; (try with_reducible rfl))
        simp only [Act.put, zA, zB, zC, zD, zE, zF]
        refine wpI_one (i := 13) rfl (by kernel_rfl) ?_
        (try simp only [Act.put, zA, zB, zC, zD, zE, zF])
        go_wp2_with (first
            | go_skip
            | (((with_reducible refine at_store_ (T := 33) ?_); refine wpList_store_mem rfl 33 _ _ rfl 0 _ _ _ (cSeg (gY n win)) hM rfl rfl rfl rfl sz_Seg rfl ?_; clear hM; intro W hM; simp only [List.cons_append, zE] at hM))
            | ((with_reducible refine at_box_ ?_); refine wpList_box_mem rfl _ _ rfl _ rfl hM ?_; clear hM; intro gb W hM; first | (simp only [List.nil_append] at hM) | (simp only [List.cons_append, List.nil_append] at hM)))
        refine contI_late (by decide) ?_
        (try simp only [Act.put, zA, zB, zC, zD, zE, zF])
        refine wpI_done (by kernel_rfl) ?_ _
        (try simp only [Act.put, zA, zB, zC, zD, zE, zF])
        have HIN := Lib.hid (fun (W : World) (gs gi gw : Nat) (k : KPt) (h : MemX noE w W (atR gs 33 (cSeg (gY n win)) :: prR gp ga gb va (pa2 iss irs) :: arR va (pa2 iss irs).air :: (cnH ga gi gw (eA iss irs o1) k ++ (cnH gb gib gwb (eB iss irs) kb ++ [atR go 29 [.int .u32 a4a, .int .i64 a4b]])))) (hk : KOk k gi gw (eA iss irs o1).h) => (by
          have h2 := inF [atR gs 33 (cSeg (gY n win)), prR gp ga gb va (pa2 iss irs), arR va (pa2 iss irs).air] (cnH gb gib gwb (eB iss irs) kb ++ [atR go 29 [.int .u32 a4a, .int .i64 a4b]]) h hk CA1.out (by decide) (gY n win) HGY.out
          rw [HE2.out, HO2.out] at h2
          exact h2 : Calls Try.prog 19 #[.pointer (some ⟨ga, 0, none⟩), .agg (cSeg (gY n win)).toArray] W fun e W' => ∃ gi' gw' k', e = .returned (.int .i64 0) ∧ MemX noE w W' (atR gs 33 (cSeg (gY n win)) :: prR gp ga gb va (pa2 iss irs) :: arR va (pa2 iss irs).air :: (cnH ga gi' gw' (eA iss irs o2) k' ++ (cnH gb gib gwb (eB iss irs) kb ++ [atR go 29 [.int .u32 a4a, .int .i64 a4b]]))) ∧ KOk k' gi' gw' (eA iss irs o2).h))
        have HST := Lib.hid (fun (W : World) (gs gi gw : Nat) (k : KPt) (h : MemX noE w W (atR gs 33 (cSeg (gY n win)) :: prR gp ga gb va (pa2 iss irs) :: arR va (pa2 iss irs).air :: (cnH ga gi gw (eA iss irs o2) k ++ (cnH gb gib gwb (eB iss irs) kb ++ [atR go 29 [.int .u32 a4a, .int .i64 a4b]])))) => (stateF [atR gs 33 (cSeg (gY n win)), prR gp ga gb va (pa2 iss irs), arR va (pa2 iss irs).air] (cnH gb gib gwb (eB iss irs) kb ++ [atR go 29 [.int .u32 a4a, .int .i64 a4b]]) h : Calls Try.prog 16 #[.pointer (some ⟨ga, 0, none⟩)] W fun e W' => e = .returned (.int .i64 3) ∧ W = W'))
        go_upto_region 28 with (first | go_skip | ((with_reducible refine at_load_ (T := 33) ?_); refine wpList_loadg_mem (by go_simp) 33 _ rfl 0 _ _ _ hM rfl rfl _ Try.underlying33 rfl sz_Seg ?_) | (go_at_call 19; refine (HIN.out _ gs _ _ _ hM HK4.out).mono ?_; clear hM; rintro e W ⟨gi5, gw5, k5, rfl, hM, hK⟩; have HK4 := Lib.hid hK; clear hK; dsimp only) | (go_at_call 16; refine (HST.out _ _ _ _ _ hM).mono ?_; rintro e W ⟨rfl, rfl⟩; dsimp only))
        clear HIN HST
        have HW17 := Lib.hid (fun (W : World) (h : (atR go 29 [.int .u32 a4a, .int .i64 a4b]).P W) => (show At W go 29 [.int .u32 a4a, .int .i64 a4b] from h).cell)
        have HX := Lib.hid (show IntKind.u32.wrap (irs + 1) = u32 (irs + 1) from IntKind.wrap_u32 _)
        refine wp_region_M [1,17] [9] hM (by kernel_rfl) ?_
        clear hM
        intro wo hM
        refine wpI_take (i := 0) (v := .agg #[.int .u32 a4a, .int .i64 a4b]) rfl (by kernel_rfl) (by kernel_rfl) (by kernel_rfl) (by kernel_rfl) (by first | exact fun _ _ _ h => h | exact fun _ _ _ h => HQ0.out _ _ _ _ _ h) ⟨fun r hr => hM.get 1 hr, fun r hr => hM.get 17 hr, trivial⟩ (Or.inl ⟨by rfl, ?hy⟩) ?_
        case hy => (rintro W ⟨i1, i17, -⟩; have c1 := (show At W _ _ _ from i1 _ rfl).cell; have c17 := HW17.out W (i17 _ rfl); (try simp only [prC] at c1); exact exec_loadw _ _ rfl go 0 rfl [.int .u32 a4a, .int .i64 a4b] _ Try.underlying29 rfl sz_End (range_cells c17))
        simp only [Act.put, zA, zB, zC, zD, zE, zF]
        refine wpI_takeP (i := 1) (v := ?_) rfl (by kernel_rfl) (by kernel_rfl) (by kernel_rfl) (by first | exact fun _ _ _ h => h | exact fun _ _ _ h => HQ0.out _ _ _ _ _ h) (Or.inl ⟨by rfl, ?hy⟩) ?_
        case hy => (intro W; go_simp; (try with_reducible rfl))
        simp only [Act.put, zA, zB, zC, zD, zE, zF]
        refine wpI_takeP (i := 2) (v := ?_) rfl (by kernel_rfl) (by kernel_rfl) (by kernel_rfl) (by first | exact fun _ _ _ h => h | exact fun _ _ _ h => HQ0.out _ _ _ _ _ h) (Or.inl ⟨by rfl, ?hy⟩) ?_
        case hy => (intro W; go_simp; (try with_reducible rfl))
        simp only [Act.put, zA, zB, zC, zD, zE, zF]
        refine wpI_takeP (i := 3) (v := ?_) rfl (by kernel_rfl) (by kernel_rfl) (by kernel_rfl) (by first | exact fun _ _ _ h => h | exact fun _ _ _ h => HQ0.out _ _ _ _ _ h) (Or.inl ⟨by rfl, ?hy⟩) ?_
        case hy => (intro W; go_simp; (try with_reducible rfl))
        simp only [Act.put, zA, zB, zC, zD, zE, zF]
        refine wpI_takeP (i := 4) (v := ?_) rfl (by kernel_rfl) (by kernel_rfl) (by kernel_rfl) (by first | exact fun _ _ _ h => h | exact fun _ _ _ h => HQ0.out _ _ _ _ _ h) (Or.inl ⟨by rfl, ?hy⟩) ?_
        case hy => (intro W; go_simp; (try with_reducible rfl))
        simp only [Act.put, zA, zB, zC, zD, zE, zF]
        refine wpI_take (i := 5) (v := .agg #[.int .u32 1, .int .i64 40000]) rfl (by kernel_rfl) (by kernel_rfl) (by kernel_rfl) (by kernel_rfl) (by first | exact fun _ _ _ h => h | exact fun _ _ _ h => HQ0.out _ _ _ _ _ h) ⟨fun r hr => hM.get 1 hr, fun r hr => hM.get 17 hr, trivial⟩ (Or.inl ⟨by rfl, ?hy⟩) ?_
        case hy => (rintro W ⟨i1, i17, -⟩; have c1 := (show At W _ _ _ from i1 _ rfl).cell; have c17 := HW17.out W (i17 _ rfl); (try simp only [prC] at c1); exact exec_loadw _ _ rfl gp 2 rfl [.int .u32 1, .int .i64 40000] _ Try.underlying29 rfl sz_End (range_sub (cs := prC ga gb va (pa2 iss irs)) c1 2 _ rfl))
        simp only [Act.put, zA, zB, zC, zD, zE, zF]
        refine wpI_takeP (i := 6) (v := ?_) rfl (by kernel_rfl) (by kernel_rfl) (by kernel_rfl) (by first | exact fun _ _ _ h => h | exact fun _ _ _ h => HQ0.out _ _ _ _ _ h) (Or.inl ⟨by rfl, ?hy⟩) ?_
        case hy => (intro W; go_simp; (try with_reducible rfl))
        simp only [Act.put, zA, zB, zC, zD, zE, zF]
        refine wpI_takeP (i := 7) (v := ?_) rfl (by kernel_rfl) (by kernel_rfl) (by kernel_rfl) (by first | exact fun _ _ _ h => h | exact fun _ _ _ h => HQ0.out _ _ _ _ _ h) (Or.inl ⟨by rfl, ?hy⟩) ?_
        case hy => (intro W; go_simp; (try with_reducible rfl))
        simp only [Act.put, zA, zB, zC, zD, zE, zF]
        refine wpI_takeP (i := 8) (v := ?_) rfl (by kernel_rfl) (by kernel_rfl) (by kernel_rfl) (by first | exact fun _ _ _ h => h | exact fun _ _ _ h => HQ0.out _ _ _ _ _ h) (Or.inl ⟨by rfl, ?hy⟩) ?_
        case hy => (intro W; go_simp; (try with_reducible rfl))
        simp only [Act.put, zA, zB, zC, zD, zE, zF]
        refine wpI_one (i := 9) rfl (by kernel_rfl) ?_
        (try simp only [Act.put, zA, zB, zC, zD, zE, zF])
        go_wp2_with (first
            | go_skip
            | (((with_reducible refine at_store_ (T := 33) ?_); refine wpList_store_mem rfl 33 _ _ rfl 0 _ _ _ (cSeg (gR a4a a4b (IntKind.u32.wrap (irs + 1)) 0)) hM rfl rfl rfl rfl sz_Seg rfl ?_; clear hM; intro W hM; simp only [List.cons_append, zE] at hM))
            | ((with_reducible refine at_box_ ?_); refine wpList_box_mem rfl _ _ rfl _ rfl hM ?_; clear hM; intro gb W hM; first | (simp only [List.nil_append] at hM) | (simp only [List.cons_append, List.nil_append] at hM)))
        refine contI_late (by decide) ?_
        (try simp only [Act.put, zA, zB, zC, zD, zE, zF])
        refine wpI_done (by kernel_rfl) ?_ _
        (try simp only [Act.put, zA, zB, zC, zD, zE, zF])
        rw [HX.out] at hM
        have HGR3 := Lib.hid (ok_gR (fa := a4a) (fp := a4b) (n := u32 (irs + 1)) (win := 0) HO.out.1 HO.out.2 (u32_bd _) (by decide))
        by_cases hot : a4a = 2 ∧ a4b = 80
        · have HEQ := Lib.hid (fun W => (by have h := eqB_End a4a a4b 2 80 W; rw [decide_eq_true hot] at h; exact h : (Op.equalIn 10000 29 (.agg #[.int .u32 a4a, .int .i64 a4b]) (.agg #[.int .u32 2, .int .i64 80])).run Try.prog W = .ok true W))
          have he3 : cInE (eA iss irs o2) (gR a4a a4b (u32 (irs + 1)) 0) = 0 := by rw [hot.1, hot.2]; exact in_same rfl
          obtain ⟨c3, hc3⟩ : ∃ z, z = cIn (eA iss irs o2) (gR a4a a4b (u32 (irs + 1)) 0) := ⟨_, rfl⟩
          have HIN := Lib.hid (fun (W : World) (gs gi gw : Nat) (k : KPt) (h : MemX noE w W (atR gs 33 (cSeg (gR a4a a4b (u32 (irs + 1)) 0)) :: prR gp ga gb va (pa2 iss irs) :: arR va (pa2 iss irs).air :: (cnH ga gi gw (eA iss irs o2) k ++ (cnH gb gib gwb (eB iss irs) kb ++ [atR go 29 [.int .u32 a4a, .int .i64 a4b]])))) (hk : KOk k gi gw (eA iss irs o2).h) => (by
          have h2 := inF [atR gs 33 (cSeg (gR a4a a4b (u32 (irs + 1)) 0)), prR gp ga gb va (pa2 iss irs), arR va (pa2 iss irs).air] (cnH gb gib gwb (eB iss irs) kb ++ [atR go 29 [.int .u32 a4a, .int .i64 a4b]]) h hk CA2.out (by decide) (gR a4a a4b (u32 (irs + 1)) 0) HGR3.out
          rw [he3, ← hc3] at h2
          exact h2 : Calls Try.prog 19 #[.pointer (some ⟨ga, 0, none⟩), .agg (cSeg (gR a4a a4b (u32 (irs + 1)) 0)).toArray] W fun e W' => ∃ gi' gw' k', e = .returned (.int .i64 0) ∧ MemX noE w W' (atR gs 33 (cSeg (gR a4a a4b (u32 (irs + 1)) 0)) :: prR gp ga gb va (pa2 iss irs) :: arR va (pa2 iss irs).air :: (cnH ga gi' gw' c3 k' ++ (cnH gb gib gwb (eB iss irs) kb ++ [atR go 29 [.int .u32 a4a, .int .i64 a4b]]))) ∧ KOk k' gi' gw' c3.h))
          clear hot he3 hc3
          go_upto_region 30 with (first | go_skip | ((with_reducible refine at_load_ (T := 33) ?_); refine wpList_loadg_mem (by go_simp) 33 _ rfl 0 _ _ _ hM rfl rfl _ Try.underlying33 rfl sz_Seg ?_) | (go_at_call 19; refine (HIN.out _ gs _ _ _ hM HK4.out).mono ?_; clear hM; rintro e W ⟨gi6, gw6, k6, rfl, hM, hK⟩; have HK4 := Lib.hid hK; clear hK; dsimp only))
          replace hM := go_front hM
          have HW0 := HW17
          refine wp_region_M [0,2] [] hM (by kernel_rfl) ?_
          clear hM
          intro wo hM
          refine wpI_take (i := 0) (v := .agg #[.int .u32 a4a, .int .i64 a4b]) rfl (by kernel_rfl) (by kernel_rfl) (by kernel_rfl) (by kernel_rfl) (by first | exact fun _ _ _ h => h | exact fun _ _ _ h => HQ0.out _ _ _ _ _ h) ⟨fun r hr => hM.get 0 hr, fun r hr => hM.get 2 hr, trivial⟩ (Or.inl ⟨by rfl, ?hy⟩) ?_
          case hy => (rintro W ⟨i0, i2, -⟩; have c0 := HW0.out W (i0 _ rfl); have c2 := (show At W _ _ _ from i2 _ rfl).cell; (try simp only [prC] at c2); exact exec_loadw _ _ rfl go 0 rfl [.int .u32 a4a, .int .i64 a4b] _ Try.underlying29 rfl sz_End (range_cells c0))
          simp only [Act.put, zA, zB, zC, zD, zE, zF]
          refine wpI_takeP (i := 1) (v := ?_) rfl (by kernel_rfl) (by kernel_rfl) (by kernel_rfl) (by first | exact fun _ _ _ h => h | exact fun _ _ _ h => HQ0.out _ _ _ _ _ h) (Or.inl ⟨by rfl, ?hy⟩) ?_
          case hy => (intro W; go_simp; (try with_reducible rfl))
          simp only [Act.put, zA, zB, zC, zD, zE, zF]
          refine wpI_takeP (i := 2) (v := ?_) rfl (by kernel_rfl) (by kernel_rfl) (by kernel_rfl) (by first | exact fun _ _ _ h => h | exact fun _ _ _ h => HQ0.out _ _ _ _ _ h) (Or.inl ⟨by rfl, ?hy⟩) ?_
          case hy => (intro W; go_simp; (try with_reducible rfl))
          simp only [Act.put, zA, zB, zC, zD, zE, zF]
          refine wpI_takeP (i := 3) (v := ?_) rfl (by kernel_rfl) (by kernel_rfl) (by kernel_rfl) (by first | exact fun _ _ _ h => h | exact fun _ _ _ h => HQ0.out _ _ _ _ _ h) (Or.inl ⟨by rfl, ?hy⟩) ?_
          case hy => (intro W; go_simp; (try with_reducible rfl))
          simp only [Act.put, zA, zB, zC, zD, zE, zF]
          refine wpI_takeP (i := 4) (v := ?_) rfl (by kernel_rfl) (by kernel_rfl) (by kernel_rfl) (by first | exact fun _ _ _ h => h | exact fun _ _ _ h => HQ0.out _ _ _ _ _ h) (Or.inl ⟨by rfl, ?hy⟩) ?_
          case hy => (intro W; go_simp; (try with_reducible rfl))
          simp only [Act.put, zA, zB, zC, zD, zE, zF]
          refine wpI_take (i := 5) (v := .agg #[.int .u32 2, .int .i64 80]) rfl (by kernel_rfl) (by kernel_rfl) (by kernel_rfl) (by kernel_rfl) (by first | exact fun _ _ _ h => h | exact fun _ _ _ h => HQ0.out _ _ _ _ _ h) ⟨fun r hr => hM.get 0 hr, fun r hr => hM.get 2 hr, trivial⟩ (Or.inl ⟨by rfl, ?hy⟩) ?_
          case hy => (rintro W ⟨i0, i2, -⟩; have c0 := HW0.out W (i0 _ rfl); have c2 := (show At W _ _ _ from i2 _ rfl).cell; (try simp only [prC] at c2); exact exec_loadw _ _ rfl gp 4 rfl [.int .u32 2, .int .i64 80] _ Try.underlying29 rfl sz_End (range_sub (cs := prC ga gb va (pa2 iss irs)) c2 4 _ rfl))
          simp only [Act.put, zA, zB, zC, zD, zE, zF]
          refine wpI_takeP (i := 6) rfl (by kernel_rfl) (by kernel_rfl) (by kernel_rfl) (by first | exact fun _ _ _ h => h | exact fun _ _ _ h => HQ0.out _ _ _ _ _ h) ((.inl ⟨by rfl, fun w => exec_eqs _ _ _ _ rfl _ _ rfl rfl eg_End _ HEQ.out w⟩)) ?_
          simp only [Act.put, zA, zB, zC, zD, zE, zF]
          (try simp only [Bool.not_true, Bool.not_false])
          refine wpI_done (by kernel_rfl) ?_ _
          (try simp only [Act.put, zA, zB, zC, zD, zE, zF])
          go_wp2_with fail
          go_ret
          exact ⟨rfl, hM.b⟩
        · have HEQ := Lib.hid (fun W => (by have h := eqB_End a4a a4b 2 80 W; rw [decide_eq_false hot] at h; exact h : (Op.equalIn 10000 29 (.agg #[.int .u32 a4a, .int .i64 a4b]) (.agg #[.int .u32 2, .int .i64 80])).run Try.prog W = .ok false W))
          have hio := in_other (iss := iss) (irs := irs) (o := o2) (n := u32 (irs + 1)) hot
          obtain ⟨ev, hev⟩ : ∃ z, z = cInE (eA iss irs o2) (gR a4a a4b (u32 (irs + 1)) 0) := ⟨_, rfl⟩
          have tev : (ev != 0) = true := by have := hio.1; rw [← hev] at this; simpa using this
          have HIN := Lib.hid (fun (W : World) (gs gi gw : Nat) (k : KPt) (h : MemX noE w W (atR gs 33 (cSeg (gR a4a a4b (u32 (irs + 1)) 0)) :: prR gp ga gb va (pa2 iss irs) :: arR va (pa2 iss irs).air :: (cnH ga gi gw (eA iss irs o2) k ++ (cnH gb gib gwb (eB iss irs) kb ++ [atR go 29 [.int .u32 a4a, .int .i64 a4b]])))) (hk : KOk k gi gw (eA iss irs o2).h) => (by
          have h2 := inF [atR gs 33 (cSeg (gR a4a a4b (u32 (irs + 1)) 0)), prR gp ga gb va (pa2 iss irs), arR va (pa2 iss irs).air] (cnH gb gib gwb (eB iss irs) kb ++ [atR go 29 [.int .u32 a4a, .int .i64 a4b]]) h hk CA2.out (by decide) (gR a4a a4b (u32 (irs + 1)) 0) HGR3.out
          rw [← hev, hio.2] at h2
          exact h2 : Calls Try.prog 19 #[.pointer (some ⟨ga, 0, none⟩), .agg (cSeg (gR a4a a4b (u32 (irs + 1)) 0)).toArray] W fun e W' => ∃ gi' gw' k', e = .returned (.int .i64 ev) ∧ MemX noE w W' (atR gs 33 (cSeg (gR a4a a4b (u32 (irs + 1)) 0)) :: prR gp ga gb va (pa2 iss irs) :: arR va (pa2 iss irs).air :: (cnH ga gi' gw' (eA iss irs o2) k' ++ (cnH gb gib gwb (eB iss irs) kb ++ [atR go 29 [.int .u32 a4a, .int .i64 a4b]]))) ∧ KOk k' gi' gw' (eA iss irs o2).h))
          have HST := Lib.hid (fun (W : World) (gs gi gw : Nat) (k : KPt) (h : MemX noE w W (atR gs 33 (cSeg (gR a4a a4b (u32 (irs + 1)) 0)) :: prR gp ga gb va (pa2 iss irs) :: arR va (pa2 iss irs).air :: (cnH ga gi gw (eA iss irs o2) k ++ (cnH gb gib gwb (eB iss irs) kb ++ [atR go 29 [.int .u32 a4a, .int .i64 a4b]])))) => (stateF [atR gs 33 (cSeg (gR a4a a4b (u32 (irs + 1)) 0)), prR gp ga gb va (pa2 iss irs), arR va (pa2 iss irs).air] (cnH gb gib gwb (eB iss irs) kb ++ [atR go 29 [.int .u32 a4a, .int .i64 a4b]]) h : Calls Try.prog 16 #[.pointer (some ⟨ga, 0, none⟩)] W fun e W' => e = .returned (.int .i64 3) ∧ W = W'))
          clear hot hio hev
          go_upto_region 30 with (first | go_skip | ((with_reducible refine at_load_ (T := 33) ?_); refine wpList_loadg_mem (by go_simp) 33 _ rfl 0 _ _ _ hM rfl rfl _ Try.underlying33 rfl sz_Seg ?_) | (go_at_call 19; refine (HIN.out _ gs _ _ _ hM HK4.out).mono ?_; clear hM; rintro e W ⟨gi6, gw6, k6, rfl, hM, hK⟩; have HK4 := Lib.hid hK; clear hK; dsimp only))
          replace hM := go_front hM
          have HW0 := HW17
          refine wp_region_M [0,2] [] hM (by kernel_rfl) ?_
          clear hM
          intro wo hM
          refine wpI_take (i := 0) (v := .agg #[.int .u32 a4a, .int .i64 a4b]) rfl (by kernel_rfl) (by kernel_rfl) (by kernel_rfl) (by kernel_rfl) (by first | exact fun _ _ _ h => h | exact fun _ _ _ h => HQ0.out _ _ _ _ _ h) ⟨fun r hr => hM.get 0 hr, fun r hr => hM.get 2 hr, trivial⟩ (Or.inl ⟨by rfl, ?hy⟩) ?_
          case hy => (rintro W ⟨i0, i2, -⟩; have c0 := HW0.out W (i0 _ rfl); have c2 := (show At W _ _ _ from i2 _ rfl).cell; (try simp only [prC] at c2); exact exec_loadw _ _ rfl go 0 rfl [.int .u32 a4a, .int .i64 a4b] _ Try.underlying29 rfl sz_End (range_cells c0))
          simp only [Act.put, zA, zB, zC, zD, zE, zF]
          refine wpI_takeP (i := 1) (v := ?_) rfl (by kernel_rfl) (by kernel_rfl) (by kernel_rfl) (by first | exact fun _ _ _ h => h | exact fun _ _ _ h => HQ0.out _ _ _ _ _ h) (Or.inl ⟨by rfl, ?hy⟩) ?_
          case hy => (intro W; go_simp; (try with_reducible rfl))
          simp only [Act.put, zA, zB, zC, zD, zE, zF]
          refine wpI_takeP (i := 2) (v := ?_) rfl (by kernel_rfl) (by kernel_rfl) (by kernel_rfl) (by first | exact fun _ _ _ h => h | exact fun _ _ _ h => HQ0.out _ _ _ _ _ h) (Or.inl ⟨by rfl, ?hy⟩) ?_
          case hy => (intro W; go_simp; (try with_reducible rfl))
          simp only [Act.put, zA, zB, zC, zD, zE, zF]
          refine wpI_takeP (i := 3) (v := ?_) rfl (by kernel_rfl) (by kernel_rfl) (by kernel_rfl) (by first | exact fun _ _ _ h => h | exact fun _ _ _ h => HQ0.out _ _ _ _ _ h) (Or.inl ⟨by rfl, ?hy⟩) ?_
          case hy => (intro W; go_simp; (try with_reducible rfl))
          simp only [Act.put, zA, zB, zC, zD, zE, zF]
          refine wpI_takeP (i := 4) (v := ?_) rfl (by kernel_rfl) (by kernel_rfl) (by kernel_rfl) (by first | exact fun _ _ _ h => h | exact fun _ _ _ h => HQ0.out _ _ _ _ _ h) (Or.inl ⟨by rfl, ?hy⟩) ?_
          case hy => (intro W; go_simp; (try with_reducible rfl))
          simp only [Act.put, zA, zB, zC, zD, zE, zF]
          refine wpI_take (i := 5) (v := .agg #[.int .u32 2, .int .i64 80]) rfl (by kernel_rfl) (by kernel_rfl) (by kernel_rfl) (by kernel_rfl) (by first | exact fun _ _ _ h => h | exact fun _ _ _ h => HQ0.out _ _ _ _ _ h) ⟨fun r hr => hM.get 0 hr, fun r hr => hM.get 2 hr, trivial⟩ (Or.inl ⟨by rfl, ?hy⟩) ?_
          case hy => (rintro W ⟨i0, i2, -⟩; have c0 := HW0.out W (i0 _ rfl); have c2 := (show At W _ _ _ from i2 _ rfl).cell; (try simp only [prC] at c2); exact exec_loadw _ _ rfl gp 4 rfl [.int .u32 2, .int .i64 80] _ Try.underlying29 rfl sz_End (range_sub (cs := prC ga gb va (pa2 iss irs)) c2 4 _ rfl))
          simp only [Act.put, zA, zB, zC, zD, zE, zF]
          refine wpI_takeP (i := 6) rfl (by kernel_rfl) (by kernel_rfl) (by kernel_rfl) (by first | exact fun _ _ _ h => h | exact fun _ _ _ h => HQ0.out _ _ _ _ _ h) ((.inl ⟨by rfl, fun w => exec_eqs _ _ _ _ rfl _ _ rfl rfl eg_End _ HEQ.out w⟩)) ?_
          simp only [Act.put, zA, zB, zC, zD, zE, zF]
          (try simp only [Bool.not_true, Bool.not_false])
          refine wpI_done (by kernel_rfl) ?_ _
          (try simp only [Act.put, zA, zB, zC, zD, zE, zF])
          replace hM := go_rear hM
          go_wp2_with (first | go_skip | (go_at_call 16; refine (HST.out _ _ _ _ _ hM).mono ?_; rintro e W ⟨rfl, rfl⟩; dsimp only))
          go_ret
          exact ⟨rfl, hM.b⟩
end Go.Proofs.Ytfpifahkpkjfgaa
