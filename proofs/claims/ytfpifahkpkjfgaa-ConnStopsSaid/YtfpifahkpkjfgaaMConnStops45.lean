/- What ConnStops needs, a part: CnRd. -/
import Derived.Deep.CutBlock
import Derived.Test.YtfpifahkpkjfgaaMConnStops37
import Derived.Test.YtfpifahkpkjfgaaMConnStops39
namespace Go.Proofs.Ytfpifahkpkjfgaa
open Go.RowKit Go.Lib
set_option linter.unusedVariables false
set_option linter.unusedSimpArgs false
set_option linter.unusedSectionVars false
set_option maxRecDepth 100000
section
variable {E : Nat → Prop} {w W : World} {gc gi gw : Nat} {c : KCn} {k : KPt}
theorem readF (F m : List Res) (h : MemX E w W (F ++ (cnH gc gi gw c k ++ m))) (hk : KOk k gi gw c.h) (hq : c.h ≠ none → IqOk (cQ c)) (most : Int) (hm : -9223372036854775808 ≤ most) (hm' : most ≤ 9223372036854775807) :
  Calls Try.prog 26 #[.pointer (some ⟨gc, 0, none⟩), .int .i64 most] W fun e W' => e = .returned (.tuple #[.string (cRead c most).2.1, .bool (cRead c most).2.2.1, .int .i64 (cRead c most).2.2.2]) ∧ MemX E w W' (F ++ (cnH gc gi gw (cRead c most).1 k ++ m)) ∧ KOk k gi gw (cRead c most).1.h := by
 refine (cRead_any gc gi gw c k (F ++ m) W (cn_at h) hk most hq hm hm').mono ?_
 rintro e W' ⟨rfl, h2, hk'⟩
 exact ⟨rfl, cn_un h2, hk'⟩
theorem ci_q {c : KCn} {t : Int} (h : CI c t) : c.h ≠ none → IqOk (cQ c) := by
 intro hh
 obtain ⟨x, hx⟩ := Option.ne_none_iff_exists'.1 hh
 obtain ⟨q, d⟩ := x
 have hq : cQ c = q := by unfold cQ; rw [hx]
 rw [hq]
 exact (h.hs q d hx).1
end
def rd0 (x : KPr) (most : Int) (o : Bool) : KPr := ⟨(cRead x.a most).1, x.b, { x.p with g0 := x.p.g0 ++ (cRead x.a most).2.1, o0 := o }⟩
def rd1 (x : KPr) (most : Int) (o : Bool) : KPr := ⟨x.a, (cRead x.b most).1, { x.p with g1 := x.p.g1 ++ (cRead x.b most).2.1, o1 := o }⟩
def Rd0 (x : KPr) (most : Int) (y : KPr) : Prop := ∃ o, y = rd0 x most o
def Rd1 (x : KPr) (most : Int) (y : KPr) : Prop := ∃ o, y = rd1 x most o
set_option maxRecDepth 100000 in
set_option maxHeartbeats 8000000 in
  theorem reads_0 {E : Nat → Prop} {w0 : World} (L : KPl) (x : KPr) (m : List Res) (w : World) (hM0 : MemX E w0 w (prM L x m)) (hok : L.ok x) {iss irs t : Int} {N : Nat} (hP : PI iss irs N t x) (most : Int) (hm : -9223372036854775808 ≤ most) (hm' : most ≤ 9223372036854775807) :
      Calls Try.prog 31 #[.pointer (some ⟨L.gp, 0, none⟩), .int .i64 0, .int .i64 most] w fun e w' => e = .returned (.bool true) ∧ ∃ y : KPr, MemX E w0 w' (prM L y m) ∧ KPl.ok L y ∧ Rd0 x most y := by
  obtain ⟨gp, ga, gia, gwa, ka, gb, gib, gwb, kb, va⟩ := L
  obtain ⟨hka, hkb⟩ := hok
  obtain ⟨-, hr2, hr3, hr4, hr5⟩ := hP.read0 most false
  have hbr := hP.br
  have hwz : x.p.w1.size ≤ 1048576 := by obtain ⟨_, _, hx⟩ := hP.h; have h1 := PH.sz hx; have h2 := PH.big hx; omega
  have hci : CI x.a t := by obtain ⟨_, _, hx⟩ := hP.h; exact PH.ca hx
  obtain ⟨a, b, p⟩ := x
  dsimp only at hka hkb hr2 hr3 hr4 hr5 hbr hci hwz
  unfold prM at hM0
  dsimp only at hM0
  have hM := hM0
  clear hM0 hP
  have HRD := Lib.hid (fun (W : World) (h : MemX E w0 W (prR gp ga gb va p :: arR va p.air :: (cnH ga gia gwa a ka ++ (cnH gb gib gwb b kb ++ m)))) => readF [prR gp ga gb va p, arR va p.air] (cnH gb gib gwb b kb ++ m) h hka (ci_q hci) most hm hm')
  obtain ⟨s, hs⟩ : ∃ z, z = (cRead a most).2.1 := ⟨_, rfl⟩
  obtain ⟨ov, hov⟩ : ∃ z, z = (cRead a most).2.2.1 := ⟨_, rfl⟩
  obtain ⟨er, her⟩ : ∃ z, z = (cRead a most).2.2.2 := ⟨_, rfl⟩
  obtain ⟨c1, hc1⟩ : ∃ z, z = (cRead a most).1 := ⟨_, rfl⟩
  rw [← hs, ← her] at hr2
  rw [← hs, ← hov, ← hc1] at hr3
  rw [← hs] at hr4 hr5
  rw [← hs, ← hov, ← her, ← hc1] at HRD
  obtain ⟨gN, hgN⟩ : ∃ z, z = p.g0 ++ s := ⟨_, rfl⟩
  have HLN := Lib.hid (show ¬ 9223372036854775807 < p.g0.size + s.size from by rw [ByteArray.size_append] at hr4; omega)
  rw [← hgN] at hr3 hr4 hr5
  have HWZ := Lib.hid hwz
  have HGN := Lib.hid hgN
  have HEQ := Lib.hid (fun (z : Bool) => (⟨z, by unfold rd0; rw [← hc1, ← hs, ← hgN]⟩ : Rd0 ⟨a, b, p⟩ most ⟨c1, b, ({ p with g0 := gN, o0 := z } : KPa)⟩))
  have HR2 := Lib.hid hr2
  have HR3 := Lib.hid hr3
  have HR4 := Lib.hid hr4
  have HR5 := Lib.hid hr5
  have HBR := Lib.hid hbr
  have HKO := Lib.hid hkb
  have HWH := Lib.hid (fun (W : World) (h : MemX E w0 W (prR gp ga gb va ({ p with g0 := gN } : KPa) :: arR va ({ p with g0 := gN } : KPa).air :: (cnH ga gia gwa c1 ka ++ (cnH gb gib gwb b kb ++ m)))) => whyF [prR gp ga gb va ({ p with g0 := gN } : KPa), arR va ({ p with g0 := gN } : KPa).air] (cnH gb gib gwb b kb ++ m) h)
  have HST := Lib.hid (fun (W : World) (z : Bool) (h : MemX E w0 W (prR gp ga gb va ({ p with g0 := gN, o0 := z } : KPa) :: arR va ({ p with g0 := gN, o0 := z } : KPa).air :: (cnH ga gia gwa c1 ka ++ (cnH gb gib gwb b kb ++ m)))) => stateF [prR gp ga gb va ({ p with g0 := gN, o0 := z } : KPa), arR va ({ p with g0 := gN, o0 := z } : KPa).air] (cnH gb gib gwb b kb ++ m) h)
  clear hs hov her hc1 hgN hr2 hr3 hr4 hr5 hbr hka hkb hci hm hm' hwz
  go_enter Try.func31, Try.ntmps31
  go_upto_region 2 with (first | go_skip | ((with_reducible refine at_load_ ?_); refine at_wanted_ (by rfl) ?_; first | (refine lM 0 hM rfl rfl rfl rfl ?_)) | (go_at_call 26; refine (HRD.out _ hM).mono ?_; clear hM; rintro e W ⟨rfl, hM, hK⟩; have HK := Lib.hid hK; clear hK; dsimp only))
  clear HRD
  replace hM := (show MemX E w0 W (prR gp ga gb va p :: arR va p.air :: (cnH ga gia gwa c1 ka ++ (cnH gb gib gwb b kb ++ m))) from hM)
  refine wp_region_M [0] [11] hM (by kernel_rfl) ?_
  clear hM
  intro wo hM
  refine tW 0 rfl ?_
  simp only [zz]
  refine tW 1 rfl ?_
  simp only [zz]
  refine tW 2 rfl ?_
  simp only [zz]
  refine tW 3 rfl ?_
  simp only [zz]
  refine tW 4 rfl ?_
  simp only [zz]
  refine tL 5 (v := ?_) rfl ⟨fun r hr => hM.get 0 hr, trivial⟩ (Or.inl ⟨by rfl, ?hy⟩) ?_
  case hy => (rintro W ⟨i0, -⟩; have c0 := (show At W _ _ _ from i0 _ rfl).cell; (try simp only [prC] at c0); go_simp; (try with_reducible rfl))
  simp only [zz]
  refine tW 6 rfl ?_
  simp only [zz]
  refine tL 7 (v := .string (p.g0 ++ s)) rfl ⟨fun r hr => hM.get 0 hr, trivial⟩ (Or.inl ⟨by rfl, ?hy⟩) ?_
  case hy => (rintro W ⟨i0, -⟩; have c0 := (show At W _ _ _ from i0 _ rfl).cell; (try simp only [prC] at c0); (go_simp; exact Nat.le_of_not_lt HLN.out))
  simp only [zz]
  refine tW 8 rfl ?_
  simp only [zz]
  refine tW 9 rfl ?_
  simp only [zz]
  refine tW 10 rfl ?_
  simp only [zz]
  refine wpI_one (i := 11) rfl (by kernel_rfl) ?_
  (try simp only [zz])
  go_wp2_with (first
      | go_skip
      | (((with_reducible refine at_store_ ?_); refine sM 0 hM rfl rfl rfl ?_; clear hM; intro W hM; simp only [zF, zE, prR, pr6, pr7, pr8, pr9, pr10, pr11, pr12, pr13, pr14, pr15, pr16, pr17, pr18, pr19] at hM)))
  refine contI_late (by decide) ?_
  (try simp only [zz])
  refine wpI_done (by kernel_rfl) ?_ _
  (try simp only [zz])
  rw [← HGN.out] at hM
  go_upto_region 3 with (fail)
  go_cut [] (fun W => ∃ z, MemX E w0 W (prR gp ga gb va ({ p with g0 := gN, o0 := z } : KPa) :: arR va ({ p with g0 := gN, o0 := z } : KPa).air :: (cnH ga gia gwa c1 ka ++ (cnH gb gib gwb b kb ++ m))))
  case first =>
    rcases Bool.eq_false_or_eq_true p.o0 with ho | ho
    · have HO := Lib.hid ho
      clear ho
      refine wp_region_M [0] [24] hM (by kernel_rfl) ?_
      clear hM
      intro wo hM
      refine tW 0 rfl ?_
      simp only [zz]
      refine tW 1 rfl ?_
      simp only [zz]
      refine tW 2 rfl ?_
      simp only [zz]
      refine tW 3 rfl ?_
      simp only [zz]
      refine tW 4 rfl ?_
      simp only [zz]
      refine tW 5 rfl ?_
      simp only [zz]
      refine tW 6 rfl ?_
      simp only [zz]
      refine tL 7 (v := ?_) rfl ⟨fun r hr => hM.get 0 hr, trivial⟩ (Or.inl ⟨by rfl, ?hy⟩) ?_
      case hy => (rintro W ⟨i0, -⟩; have c0 := (show At W _ _ _ from i0 _ rfl).cell; (try simp only [prC] at c0); (try simp only [HO.out] at c0); go_simp; (try with_reducible rfl))
      simp only [zz]
      refine tW 8 rfl ?_
      simp only [zz]
      first
      | (refine tW 9 rfl ?_)
      | (refine tU 9 rfl ?_)
      simp only [zz]
      first
      | (refine tW 10 rfl ?_)
      | (refine tU 10 rfl ?_)
      simp only [zz]
      first
      | (refine tW 11 rfl ?_)
      | (refine tU 11 rfl ?_)
      simp only [zz]
      first
      | (refine tW 12 rfl ?_)
      | (refine tU 12 rfl ?_)
      simp only [zz]
      first
      | (refine tW 13 rfl ?_)
      | (refine tU 13 rfl ?_)
      simp only [zz]
      first
      | (refine tW 14 rfl ?_)
      | (refine tU 14 rfl ?_)
      simp only [zz]
      first
      | (refine tW 15 rfl ?_)
      | (refine tU 15 rfl ?_)
      simp only [zz]
      first
      | (refine tL 16 (v := ?_) rfl ⟨fun r hr => hM.get 0 hr, trivial⟩ (Or.inl ⟨by rfl, ?hy⟩) ?_; (case hy => (rintro W ⟨i0, -⟩; have c0 := (show At W _ _ _ from i0 _ rfl).cell; (try simp only [prC] at c0); (try simp only [HO.out] at c0); go_simp; (try with_reducible rfl))))
      | (refine tL 16 (v := undef) rfl ⟨fun r hr => hM.get 0 hr, trivial⟩ (Or.inr ⟨by rfl, rfl⟩) ?_)
      simp only [zz]
      refine tW 21 rfl ?_
      simp only [zz]
      refine tW 22 rfl ?_
      simp only [zz]
      refine wpI_one (i := 17) rfl (by kernel_rfl) ?_
      (try simp only [zz])
      go_wp2_with (first
          | go_skip)
      refine contI_normal ⟨fun r hr => hM.get 0 hr, trivial⟩ ?_
      (try simp only [zz])
      first
      | (refine tW 18 rfl ?_)
      | (refine tU 18 rfl ?_)
      simp only [zz]
      first
      | (refine tW 19 rfl ?_)
      | (refine tU 19 rfl ?_)
      simp only [zz]
      refine tW 20 rfl ?_
      simp only [zz]
      refine tW 23 rfl ?_
      simp only [zz]
      refine wpI_one (i := 24) rfl (by kernel_rfl) ?_
      (try simp only [zz])
      go_wp2_with (first
          | go_skip
          | (((with_reducible refine at_store_ ?_); refine sM 0 hM rfl rfl rfl ?_; clear hM; intro W hM; simp only [zF, zE, prR, pr6, pr7, pr8, pr9, pr10, pr11, pr12, pr13, pr14, pr15, pr16, pr17, pr18, pr19] at hM)))
      refine contI_late (by decide) ?_
      (try simp only [zz])
      refine wpI_done (by kernel_rfl) ?_ _
      (try simp only [zz])
      go_wp2_with fail
      go_meet
      case rel => exact ⟨_, hM⟩
    · have HO := Lib.hid ho
      clear ho
      cases ov with
      | false =>
        refine wp_region_M [0] [24] hM (by kernel_rfl) ?_
        clear hM
        intro wo hM
        refine tW 0 rfl ?_
        simp only [zz]
        refine tW 1 rfl ?_
        simp only [zz]
        refine tW 2 rfl ?_
        simp only [zz]
        refine tW 3 rfl ?_
        simp only [zz]
        refine tW 4 rfl ?_
        simp only [zz]
        refine tW 5 rfl ?_
        simp only [zz]
        refine tW 6 rfl ?_
        simp only [zz]
        refine tL 7 (v := ?_) rfl ⟨fun r hr => hM.get 0 hr, trivial⟩ (Or.inl ⟨by rfl, ?hy⟩) ?_
        case hy => (rintro W ⟨i0, -⟩; have c0 := (show At W _ _ _ from i0 _ rfl).cell; (try simp only [prC] at c0); (try simp only [HO.out] at c0); go_simp; (try with_reducible rfl))
        simp only [zz]
        refine tW 8 rfl ?_
        simp only [zz]
        first
        | (refine tW 9 rfl ?_)
        | (refine tU 9 rfl ?_)
        simp only [zz]
        first
        | (refine tW 10 rfl ?_)
        | (refine tU 10 rfl ?_)
        simp only [zz]
        first
        | (refine tW 11 rfl ?_)
        | (refine tU 11 rfl ?_)
        simp only [zz]
        first
        | (refine tW 12 rfl ?_)
        | (refine tU 12 rfl ?_)
        simp only [zz]
        first
        | (refine tW 13 rfl ?_)
        | (refine tU 13 rfl ?_)
        simp only [zz]
        first
        | (refine tW 14 rfl ?_)
        | (refine tU 14 rfl ?_)
        simp only [zz]
        first
        | (refine tW 15 rfl ?_)
        | (refine tU 15 rfl ?_)
        simp only [zz]
        first
        | (refine tL 16 (v := ?_) rfl ⟨fun r hr => hM.get 0 hr, trivial⟩ (Or.inl ⟨by rfl, ?hy⟩) ?_; (case hy => (rintro W ⟨i0, -⟩; have c0 := (show At W _ _ _ from i0 _ rfl).cell; (try simp only [prC] at c0); (try simp only [HO.out] at c0); go_simp; (try with_reducible rfl))))
        | (refine tL 16 (v := undef) rfl ⟨fun r hr => hM.get 0 hr, trivial⟩ (Or.inr ⟨by rfl, rfl⟩) ?_)
        simp only [zz]
        refine tW 21 rfl ?_
        simp only [zz]
        refine tW 22 rfl ?_
        simp only [zz]
        refine wpI_one (i := 17) rfl (by kernel_rfl) ?_
        (try simp only [zz])
        go_wp2_with (first
            | go_skip)
        refine contI_normal ⟨fun r hr => hM.get 0 hr, trivial⟩ ?_
        (try simp only [zz])
        first
        | (refine tW 18 rfl ?_)
        | (refine tU 18 rfl ?_)
        simp only [zz]
        first
        | (refine tW 19 rfl ?_)
        | (refine tU 19 rfl ?_)
        simp only [zz]
        refine tW 20 rfl ?_
        simp only [zz]
        refine tW 23 rfl ?_
        simp only [zz]
        refine wpI_one (i := 24) rfl (by kernel_rfl) ?_
        (try simp only [zz])
        go_wp2_with (first
            | go_skip
            | (((with_reducible refine at_store_ ?_); refine sM 0 hM rfl rfl rfl ?_; clear hM; intro W hM; simp only [zF, zE, prR, pr6, pr7, pr8, pr9, pr10, pr11, pr12, pr13, pr14, pr15, pr16, pr17, pr18, pr19] at hM)))
        refine contI_late (by decide) ?_
        (try simp only [zz])
        refine wpI_done (by kernel_rfl) ?_ _
        (try simp only [zz])
        go_wp2_with fail
        go_meet
        case rel => exact ⟨_, hM⟩
      | true =>
        refine wp_region_M [0] [24] hM (by kernel_rfl) ?_
        clear hM
        intro wo hM
        refine tW 0 rfl ?_
        simp only [zz]
        refine tW 1 rfl ?_
        simp only [zz]
        refine tW 2 rfl ?_
        simp only [zz]
        refine tW 3 rfl ?_
        simp only [zz]
        refine tW 4 rfl ?_
        simp only [zz]
        refine tW 5 rfl ?_
        simp only [zz]
        refine tW 6 rfl ?_
        simp only [zz]
        refine tL 7 (v := ?_) rfl ⟨fun r hr => hM.get 0 hr, trivial⟩ (Or.inl ⟨by rfl, ?hy⟩) ?_
        case hy => (rintro W ⟨i0, -⟩; have c0 := (show At W _ _ _ from i0 _ rfl).cell; (try simp only [prC] at c0); (try simp only [HO.out] at c0); go_simp; (try with_reducible rfl))
        simp only [zz]
        refine tW 8 rfl ?_
        simp only [zz]
        first
        | (refine tW 9 rfl ?_)
        | (refine tU 9 rfl ?_)
        simp only [zz]
        first
        | (refine tW 10 rfl ?_)
        | (refine tU 10 rfl ?_)
        simp only [zz]
        first
        | (refine tW 11 rfl ?_)
        | (refine tU 11 rfl ?_)
        simp only [zz]
        first
        | (refine tW 12 rfl ?_)
        | (refine tU 12 rfl ?_)
        simp only [zz]
        first
        | (refine tW 13 rfl ?_)
        | (refine tU 13 rfl ?_)
        simp only [zz]
        first
        | (refine tW 14 rfl ?_)
        | (refine tU 14 rfl ?_)
        simp only [zz]
        first
        | (refine tW 15 rfl ?_)
        | (refine tU 15 rfl ?_)
        simp only [zz]
        first
        | (refine tL 16 (v := ?_) rfl ⟨fun r hr => hM.get 0 hr, trivial⟩ (Or.inl ⟨by rfl, ?hy⟩) ?_; (case hy => (rintro W ⟨i0, -⟩; have c0 := (show At W _ _ _ from i0 _ rfl).cell; (try simp only [prC] at c0); (try simp only [HO.out] at c0); go_simp; (try with_reducible rfl))))
        | (refine tL 16 (v := undef) rfl ⟨fun r hr => hM.get 0 hr, trivial⟩ (Or.inr ⟨by rfl, rfl⟩) ?_)
        simp only [zz]
        refine tW 21 rfl ?_
        simp only [zz]
        refine tW 22 rfl ?_
        simp only [zz]
        refine wpI_one (i := 17) rfl (by kernel_rfl) ?_
        (try simp only [zz])
        go_wp2_with (first
            | go_skip
            | ((go_at_call 17; refine (HWH.out _ hM).mono ?_; rintro e W ⟨rfl, rfl⟩; dsimp only)))
        refine contI_normal ⟨fun r hr => hM.get 0 hr, trivial⟩ ?_
        (try simp only [zz])
        first
        | (refine tW 18 rfl ?_)
        | (refine tU 18 rfl ?_)
        simp only [zz]
        first
        | (refine tW 19 rfl ?_)
        | (refine tU 19 rfl ?_)
        simp only [zz]
        refine tW 20 rfl ?_
        simp only [zz]
        refine tW 23 rfl ?_
        simp only [zz]
        refine wpI_one (i := 24) rfl (by kernel_rfl) ?_
        (try simp only [zz])
        go_wp2_with (first
            | go_skip
            | (((with_reducible refine at_store_ ?_); refine sM 0 hM rfl rfl rfl ?_; clear hM; intro W hM; simp only [zF, zE, prR, pr6, pr7, pr8, pr9, pr10, pr11, pr12, pr13, pr14, pr15, pr16, pr17, pr18, pr19] at hM)))
        refine contI_late (by decide) ?_
        (try simp only [zz])
        refine wpI_done (by kernel_rfl) ?_ _
        (try simp only [zz])
        go_wp2_with fail
        go_meet
        case rel => exact ⟨_, hM⟩
  case rest =>
    clear hM
    obtain ⟨z, hM⟩ := hcut
    have tg : decide ((p.w1.size : Int) < gN.size) = false := decide_eq_false (by have := HR4.out; omega)
    go_upto_region 5 with (first | go_skip | ((with_reducible refine at_load_ ?_); refine at_wanted_ (by rfl) ?_; first | (refine lM 0 hM rfl rfl rfl rfl ?_)))
    refine wp_region_M [0] [] hM (by kernel_rfl) ?_
    clear hM
    intro wo hM
    refine tW 0 rfl ?_
    simp only [zz]
    refine tW 1 rfl ?_
    simp only [zz]
    refine tW 2 rfl ?_
    simp only [zz]
    refine tW 3 rfl ?_
    simp only [zz]
    refine tW 4 rfl ?_
    simp only [zz]
    refine tL 5 (v := ?_) rfl ⟨fun r hr => hM.get 0 hr, trivial⟩ (Or.inl ⟨by rfl, ?hy⟩) ?_
    case hy => (rintro W ⟨i0, -⟩; have c0 := (show At W _ _ _ from i0 _ rfl).cell; (try simp only [prC] at c0); go_simp; (try with_reducible rfl))
    simp only [zz]
    refine tW 6 rfl ?_
    simp only [zz]
    refine tW 7 rfl ?_
    simp only [zz]
    refine tW 8 rfl ?_
    simp only [zz]
    refine tL 9 (v := .bool false) rfl ⟨fun r hr => hM.get 0 hr, trivial⟩ (Or.inl ⟨by rfl, ?hy⟩) ?_
    case hy => (rintro W ⟨i0, -⟩; have c0 := (show At W _ _ _ from i0 _ rfl).cell; (try simp only [prC] at c0); (go_simp; first | done | exact HR4.out))
    simp only [zz]
    refine tW 10 rfl ?_
    simp only [zz]
    first
    | (refine tW 11 rfl ?_)
    | (refine tU 11 rfl ?_)
    simp only [zz]
    first
    | (refine tW 12 rfl ?_)
    | (refine tU 12 rfl ?_)
    simp only [zz]
    first
    | (refine tW 13 rfl ?_)
    | (refine tU 13 rfl ?_)
    simp only [zz]
    first
    | (refine tW 14 rfl ?_)
    | (refine tU 14 rfl ?_)
    simp only [zz]
    first
    | (refine tW 15 rfl ?_)
    | (refine tU 15 rfl ?_)
    simp only [zz]
    first
    | (refine tW 16 rfl ?_)
    | (refine tU 16 rfl ?_)
    simp only [zz]
    first
    | (refine tL 17 (v := ?_) rfl ⟨fun r hr => hM.get 0 hr, trivial⟩ (Or.inl ⟨by rfl, ?hy⟩) ?_; (case hy => (rintro W ⟨i0, -⟩; have c0 := (show At W _ _ _ from i0 _ rfl).cell; (try simp only [prC] at c0); go_simp; (try with_reducible rfl))))
    | (refine tL 17 (v := undef) rfl ⟨fun r hr => hM.get 0 hr, trivial⟩ (Or.inr ⟨by rfl, rfl⟩) ?_)
    simp only [zz]
    first
    | (refine tW 18 rfl ?_)
    | (refine tU 18 rfl ?_)
    simp only [zz]
    first
    | (refine tL 19 (v := .string gN) rfl ⟨fun r hr => hM.get 0 hr, trivial⟩ (Or.inl ⟨by rfl, ?hy⟩) ?_; (case hy => (rintro W ⟨i0, -⟩; have c0 := (show At W _ _ _ from i0 _ rfl).cell; (try simp only [prC] at c0); (go_simp; first | done | (rw [HR5.out]; done) | exact ⟨HR4.out, HR5.out⟩ | (simp [HR4.out, HR5.out]; done) | (trace_state; fail)))))
    | (refine tU 19 rfl ?_)
    simp only [zz]
    first
    | (refine tW 20 rfl ?_)
    | (refine tU 20 rfl ?_)
    simp only [zz]
    first
    | (refine tW 21 rfl ?_)
    | (refine tU 21 rfl ?_)
    simp only [zz]
    first
    | (refine tW 22 rfl ?_)
    | (refine tU 22 rfl ?_)
    simp only [zz]
    first
    | (refine tW 23 rfl ?_)
    | (refine tU 23 rfl ?_)
    simp only [zz]
    first
    | (refine tW 24 rfl ?_)
    | (refine tU 24 rfl ?_)
    simp only [zz]
    first
    | (refine tL 25 (v := ?_) rfl ⟨fun r hr => hM.get 0 hr, trivial⟩ (Or.inl ⟨by rfl, ?hy⟩) ?_; (case hy => (rintro W ⟨i0, -⟩; have c0 := (show At W _ _ _ from i0 _ rfl).cell; (try simp only [prC] at c0); go_simp; (try with_reducible rfl))))
    | (refine tL 25 (v := undef) rfl ⟨fun r hr => hM.get 0 hr, trivial⟩ (Or.inr ⟨by rfl, rfl⟩) ?_)
    simp only [zz]
    first
    | (refine tL 26 (v := .bool false) rfl ⟨fun r hr => hM.get 0 hr, trivial⟩ (Or.inl ⟨by rfl, ?hy⟩) ?_; (case hy => (rintro W ⟨i0, -⟩; have c0 := (show At W _ _ _ from i0 _ rfl).cell; (try simp only [prC] at c0); (go_simp; first | done | rfl))))
    | (refine tU 26 rfl ?_)
    simp only [zz]
    refine tW 27 rfl ?_
    simp only [zz]
    refine wpI_done (by kernel_rfl) ?_ _
    (try simp only [zz])
    have HZT := Lib.hid (HST.out · z)
    clear HWH HST tg
    go_upto_region 7 with (fail)
    by_cases he : er = 0
    · have te : (er != 0) = false := by simpa using he
      clear he
      go_upto_region 9 with (fail)
      cases ov with
      | false =>
        go_wp2_with (first | go_skip | ((with_reducible refine at_load_ ?_); refine at_wanted_ (by rfl) ?_; first | (refine lM 0 hM rfl rfl rfl rfl ?_)) | (go_at_call 16; refine (HZT.out _ hM).mono ?_; rintro e W ⟨rfl, rfl⟩; dsimp only))
        refine bodyPost_ret (v := .bool true) (by simp [results, Try.results31, go_sem]) rfl ?_
        exact ⟨rfl, (⟨c1, b, ({ p with g0 := gN, o0 := z } : KPa)⟩ : KPr), hM, ⟨HK.out, HKO.out⟩, HEQ.out z⟩
      | true =>
        by_cases h0 : c1.st = 0
        · have t0 : (c1.st == 0) = true := by simpa using h0
          clear h0
          have hb0 := HBR.out
          go_wp2_with (first | go_skip | ((with_reducible refine at_load_ ?_); refine at_wanted_ (by rfl) ?_; first | (refine lM 0 hM rfl rfl rfl rfl ?_)) | (go_at_call 16; refine (HZT.out _ hM).mono ?_; rintro e W ⟨rfl, rfl⟩; dsimp only))
          refine bodyPost_ret (v := .bool true) (by simp [results, Try.results31, go_sem]) rfl ?_
          exact ⟨rfl, (⟨c1, b, ({ p with g0 := gN, o0 := z } : KPa)⟩ : KPr), hM, ⟨HK.out, HKO.out⟩, HEQ.out z⟩
        · have t0 : (c1.st == 0) = false := by simpa using h0
          obtain ⟨h1, h2⟩ := (HR3.out rfl).resolve_left h0
          clear h0
          have hb0 := HBR.out
          go_wp2_with (first | go_skip | ((with_reducible refine at_load_ ?_); refine at_wanted_ (by rfl) ?_; first | (refine lM 0 hM rfl rfl rfl rfl ?_)) | (go_at_call 16; refine (HZT.out _ hM).mono ?_; rintro e W ⟨rfl, rfl⟩; dsimp only))
          refine bodyPost_ret (v := .bool true) (by simp [results, Try.results31, go_sem]) rfl ?_
          exact ⟨rfl, (⟨c1, b, ({ p with g0 := gN, o0 := z } : KPa)⟩ : KPr), hM, ⟨HK.out, HKO.out⟩, HEQ.out z⟩
    · have te : (er != 0) = true := by simpa using he
      have hse := HR2.out he
      subst hse
      clear he
      go_upto_region 9 with (fail)
      cases ov with
      | false =>
        go_wp2_with (first | go_skip | ((with_reducible refine at_load_ ?_); refine at_wanted_ (by rfl) ?_; first | (refine lM 0 hM rfl rfl rfl rfl ?_)) | (go_at_call 16; refine (HZT.out _ hM).mono ?_; rintro e W ⟨rfl, rfl⟩; dsimp only))
        refine bodyPost_ret (v := .bool true) (by simp [results, Try.results31, go_sem]) rfl ?_
        exact ⟨rfl, (⟨c1, b, ({ p with g0 := gN, o0 := z } : KPa)⟩ : KPr), hM, ⟨HK.out, HKO.out⟩, HEQ.out z⟩
      | true =>
        by_cases h0 : c1.st = 0
        · have t0 : (c1.st == 0) = true := by simpa using h0
          clear h0
          have hb0 := HBR.out
          go_wp2_with (first | go_skip | ((with_reducible refine at_load_ ?_); refine at_wanted_ (by rfl) ?_; first | (refine lM 0 hM rfl rfl rfl rfl ?_)) | (go_at_call 16; refine (HZT.out _ hM).mono ?_; rintro e W ⟨rfl, rfl⟩; dsimp only))
          refine bodyPost_ret (v := .bool true) (by simp [results, Try.results31, go_sem]) rfl ?_
          exact ⟨rfl, (⟨c1, b, ({ p with g0 := gN, o0 := z } : KPa)⟩ : KPr), hM, ⟨HK.out, HKO.out⟩, HEQ.out z⟩
        · have t0 : (c1.st == 0) = false := by simpa using h0
          obtain ⟨h1, h2⟩ := (HR3.out rfl).resolve_left h0
          clear h0
          have hb0 := HBR.out
          go_wp2_with (first | go_skip | ((with_reducible refine at_load_ ?_); refine at_wanted_ (by rfl) ?_; first | (refine lM 0 hM rfl rfl rfl rfl ?_)) | (go_at_call 16; refine (HZT.out _ hM).mono ?_; rintro e W ⟨rfl, rfl⟩; dsimp only))
          refine bodyPost_ret (v := .bool true) (by simp [results, Try.results31, go_sem]) rfl ?_
          exact ⟨rfl, (⟨c1, b, ({ p with g0 := gN, o0 := z } : KPa)⟩ : KPr), hM, ⟨HK.out, HKO.out⟩, HEQ.out z⟩
set_option maxRecDepth 100000 in
set_option maxHeartbeats 8000000 in
  theorem reads_1 {E : Nat → Prop} {w0 : World} (L : KPl) (x : KPr) (m : List Res) (w : World) (hM0 : MemX E w0 w (prM L x m)) (hok : L.ok x) {iss irs t : Int} {N : Nat} (hP : PI iss irs N t x) (most : Int) (hm : -9223372036854775808 ≤ most) (hm' : most ≤ 9223372036854775807) :
      Calls Try.prog 31 #[.pointer (some ⟨L.gp, 0, none⟩), .int .i64 1, .int .i64 most] w fun e w' => e = .returned (.bool true) ∧ ∃ y : KPr, MemX E w0 w' (prM L y m) ∧ KPl.ok L y ∧ Rd1 x most y := by
  obtain ⟨gp, ga, gia, gwa, ka, gb, gib, gwb, kb, va⟩ := L
  obtain ⟨hka, hkb⟩ := hok
  obtain ⟨-, hr2, hr3, hr4, hr5⟩ := hP.read1 most false
  have hbr := hP.br
  have hwz : x.p.w0.size ≤ 1048576 := by obtain ⟨_, _, hx⟩ := hP.h; have h1 := PH.sz hx; have h2 := PH.big hx; omega
  have hci : CI x.b t := by obtain ⟨_, _, hx⟩ := hP.h; exact PH.cb hx
  obtain ⟨a, b, p⟩ := x
  dsimp only at hka hkb hr2 hr3 hr4 hr5 hbr hci hwz
  unfold prM at hM0
  dsimp only at hM0
  have hM := hM0
  clear hM0 hP
  have HRD := Lib.hid (fun (W : World) (h : MemX E w0 W (prR gp ga gb va p :: arR va p.air :: (cnH ga gia gwa a ka ++ (cnH gb gib gwb b kb ++ m)))) => readF (prR gp ga gb va p :: arR va p.air :: cnH ga gia gwa a ka) m h hkb (ci_q hci) most hm hm')
  obtain ⟨s, hs⟩ : ∃ z, z = (cRead b most).2.1 := ⟨_, rfl⟩
  obtain ⟨ov, hov⟩ : ∃ z, z = (cRead b most).2.2.1 := ⟨_, rfl⟩
  obtain ⟨er, her⟩ : ∃ z, z = (cRead b most).2.2.2 := ⟨_, rfl⟩
  obtain ⟨c1, hc1⟩ : ∃ z, z = (cRead b most).1 := ⟨_, rfl⟩
  rw [← hs, ← her] at hr2
  rw [← hs, ← hov, ← hc1] at hr3
  rw [← hs] at hr4 hr5
  rw [← hs, ← hov, ← her, ← hc1] at HRD
  obtain ⟨gN, hgN⟩ : ∃ z, z = p.g1 ++ s := ⟨_, rfl⟩
  have HLN := Lib.hid (show ¬ 9223372036854775807 < p.g1.size + s.size from by rw [ByteArray.size_append] at hr4; omega)
  rw [← hgN] at hr3 hr4 hr5
  have HWZ := Lib.hid hwz
  have HGN := Lib.hid hgN
  have HEQ := Lib.hid (fun (z : Bool) => (⟨z, by unfold rd1; rw [← hc1, ← hs, ← hgN]⟩ : Rd1 ⟨a, b, p⟩ most ⟨a, c1, ({ p with g1 := gN, o1 := z } : KPa)⟩))
  have HR2 := Lib.hid hr2
  have HR3 := Lib.hid hr3
  have HR4 := Lib.hid hr4
  have HR5 := Lib.hid hr5
  have HBR := Lib.hid hbr
  have HKO := Lib.hid hka
  have HWH := Lib.hid (fun (W : World) (h : MemX E w0 W (prR gp ga gb va ({ p with g1 := gN } : KPa) :: arR va ({ p with g1 := gN } : KPa).air :: (cnH ga gia gwa a ka ++ (cnH gb gib gwb c1 kb ++ m)))) => whyF (prR gp ga gb va ({ p with g1 := gN } : KPa) :: arR va ({ p with g1 := gN } : KPa).air :: cnH ga gia gwa a ka) m h)
  have HST := Lib.hid (fun (W : World) (z : Bool) (h : MemX E w0 W (prR gp ga gb va ({ p with g1 := gN, o1 := z } : KPa) :: arR va ({ p with g1 := gN, o1 := z } : KPa).air :: (cnH ga gia gwa a ka ++ (cnH gb gib gwb c1 kb ++ m)))) => stateF (prR gp ga gb va ({ p with g1 := gN, o1 := z } : KPa) :: arR va ({ p with g1 := gN, o1 := z } : KPa).air :: cnH ga gia gwa a ka) m h)
  clear hs hov her hc1 hgN hr2 hr3 hr4 hr5 hbr hka hkb hci hm hm' hwz
  go_enter Try.func31, Try.ntmps31
  go_upto_region 2 with (first | go_skip | ((with_reducible refine at_load_ ?_); refine at_wanted_ (by rfl) ?_; first | (refine lM 0 hM rfl rfl rfl rfl ?_)) | (go_at_call 26; refine (HRD.out _ hM).mono ?_; clear hM; rintro e W ⟨rfl, hM, hK⟩; have HK := Lib.hid hK; clear hK; dsimp only))
  clear HRD
  replace hM := (show MemX E w0 W (prR gp ga gb va p :: arR va p.air :: (cnH ga gia gwa a ka ++ (cnH gb gib gwb c1 kb ++ m))) from hM)
  refine wp_region_M [0] [11] hM (by kernel_rfl) ?_
  clear hM
  intro wo hM
  refine tW 0 rfl ?_
  simp only [zz]
  refine tW 1 rfl ?_
  simp only [zz]
  refine tW 2 rfl ?_
  simp only [zz]
  refine tW 3 rfl ?_
  simp only [zz]
  refine tW 4 rfl ?_
  simp only [zz]
  refine tL 5 (v := ?_) rfl ⟨fun r hr => hM.get 0 hr, trivial⟩ (Or.inl ⟨by rfl, ?hy⟩) ?_
  case hy => (rintro W ⟨i0, -⟩; have c0 := (show At W _ _ _ from i0 _ rfl).cell; (try simp only [prC] at c0); go_simp; (try with_reducible rfl))
  simp only [zz]
  refine tW 6 rfl ?_
  simp only [zz]
  refine tL 7 (v := .string (p.g1 ++ s)) rfl ⟨fun r hr => hM.get 0 hr, trivial⟩ (Or.inl ⟨by rfl, ?hy⟩) ?_
  case hy => (rintro W ⟨i0, -⟩; have c0 := (show At W _ _ _ from i0 _ rfl).cell; (try simp only [prC] at c0); (go_simp; exact Nat.le_of_not_lt HLN.out))
  simp only [zz]
  refine tW 8 rfl ?_
  simp only [zz]
  refine tW 9 rfl ?_
  simp only [zz]
  refine tW 10 rfl ?_
  simp only [zz]
  refine wpI_one (i := 11) rfl (by kernel_rfl) ?_
  (try simp only [zz])
  go_wp2_with (first
      | go_skip
      | (((with_reducible refine at_store_ ?_); refine sM 0 hM rfl rfl rfl ?_; clear hM; intro W hM; simp only [zF, zE, prR, pr6, pr7, pr8, pr9, pr10, pr11, pr12, pr13, pr14, pr15, pr16, pr17, pr18, pr19] at hM)))
  refine contI_late (by decide) ?_
  (try simp only [zz])
  refine wpI_done (by kernel_rfl) ?_ _
  (try simp only [zz])
  rw [← HGN.out] at hM
  go_upto_region 3 with (fail)
  go_cut [] (fun W => ∃ z, MemX E w0 W (prR gp ga gb va ({ p with g1 := gN, o1 := z } : KPa) :: arR va ({ p with g1 := gN, o1 := z } : KPa).air :: (cnH ga gia gwa a ka ++ (cnH gb gib gwb c1 kb ++ m))))
  case first =>
    rcases Bool.eq_false_or_eq_true p.o1 with ho | ho
    · have HO := Lib.hid ho
      clear ho
      refine wp_region_M [0] [24] hM (by kernel_rfl) ?_
      clear hM
      intro wo hM
      refine tW 0 rfl ?_
      simp only [zz]
      refine tW 1 rfl ?_
      simp only [zz]
      refine tW 2 rfl ?_
      simp only [zz]
      refine tW 3 rfl ?_
      simp only [zz]
      refine tW 4 rfl ?_
      simp only [zz]
      refine tW 5 rfl ?_
      simp only [zz]
      refine tW 6 rfl ?_
      simp only [zz]
      refine tL 7 (v := ?_) rfl ⟨fun r hr => hM.get 0 hr, trivial⟩ (Or.inl ⟨by rfl, ?hy⟩) ?_
      case hy => (rintro W ⟨i0, -⟩; have c0 := (show At W _ _ _ from i0 _ rfl).cell; (try simp only [prC] at c0); (try simp only [HO.out] at c0); go_simp; (try with_reducible rfl))
      simp only [zz]
      refine tW 8 rfl ?_
      simp only [zz]
      first
      | (refine tW 9 rfl ?_)
      | (refine tU 9 rfl ?_)
      simp only [zz]
      first
      | (refine tW 10 rfl ?_)
      | (refine tU 10 rfl ?_)
      simp only [zz]
      first
      | (refine tW 11 rfl ?_)
      | (refine tU 11 rfl ?_)
      simp only [zz]
      first
      | (refine tW 12 rfl ?_)
      | (refine tU 12 rfl ?_)
      simp only [zz]
      first
      | (refine tW 13 rfl ?_)
      | (refine tU 13 rfl ?_)
      simp only [zz]
      first
      | (refine tW 14 rfl ?_)
      | (refine tU 14 rfl ?_)
      simp only [zz]
      first
      | (refine tW 15 rfl ?_)
      | (refine tU 15 rfl ?_)
      simp only [zz]
      first
      | (refine tL 16 (v := ?_) rfl ⟨fun r hr => hM.get 0 hr, trivial⟩ (Or.inl ⟨by rfl, ?hy⟩) ?_; (case hy => (rintro W ⟨i0, -⟩; have c0 := (show At W _ _ _ from i0 _ rfl).cell; (try simp only [prC] at c0); (try simp only [HO.out] at c0); go_simp; (try with_reducible rfl))))
      | (refine tL 16 (v := undef) rfl ⟨fun r hr => hM.get 0 hr, trivial⟩ (Or.inr ⟨by rfl, rfl⟩) ?_)
      simp only [zz]
      refine tW 21 rfl ?_
      simp only [zz]
      refine tW 22 rfl ?_
      simp only [zz]
      refine wpI_one (i := 17) rfl (by kernel_rfl) ?_
      (try simp only [zz])
      go_wp2_with (first
          | go_skip)
      refine contI_normal ⟨fun r hr => hM.get 0 hr, trivial⟩ ?_
      (try simp only [zz])
      first
      | (refine tW 18 rfl ?_)
      | (refine tU 18 rfl ?_)
      simp only [zz]
      first
      | (refine tW 19 rfl ?_)
      | (refine tU 19 rfl ?_)
      simp only [zz]
      refine tW 20 rfl ?_
      simp only [zz]
      refine tW 23 rfl ?_
      simp only [zz]
      refine wpI_one (i := 24) rfl (by kernel_rfl) ?_
      (try simp only [zz])
      go_wp2_with (first
          | go_skip
          | (((with_reducible refine at_store_ ?_); refine sM 0 hM rfl rfl rfl ?_; clear hM; intro W hM; simp only [zF, zE, prR, pr6, pr7, pr8, pr9, pr10, pr11, pr12, pr13, pr14, pr15, pr16, pr17, pr18, pr19] at hM)))
      refine contI_late (by decide) ?_
      (try simp only [zz])
      refine wpI_done (by kernel_rfl) ?_ _
      (try simp only [zz])
      go_wp2_with fail
      go_meet
      case rel => exact ⟨_, hM⟩
    · have HO := Lib.hid ho
      clear ho
      cases ov with
      | false =>
        refine wp_region_M [0] [24] hM (by kernel_rfl) ?_
        clear hM
        intro wo hM
        refine tW 0 rfl ?_
        simp only [zz]
        refine tW 1 rfl ?_
        simp only [zz]
        refine tW 2 rfl ?_
        simp only [zz]
        refine tW 3 rfl ?_
        simp only [zz]
        refine tW 4 rfl ?_
        simp only [zz]
        refine tW 5 rfl ?_
        simp only [zz]
        refine tW 6 rfl ?_
        simp only [zz]
        refine tL 7 (v := ?_) rfl ⟨fun r hr => hM.get 0 hr, trivial⟩ (Or.inl ⟨by rfl, ?hy⟩) ?_
        case hy => (rintro W ⟨i0, -⟩; have c0 := (show At W _ _ _ from i0 _ rfl).cell; (try simp only [prC] at c0); (try simp only [HO.out] at c0); go_simp; (try with_reducible rfl))
        simp only [zz]
        refine tW 8 rfl ?_
        simp only [zz]
        first
        | (refine tW 9 rfl ?_)
        | (refine tU 9 rfl ?_)
        simp only [zz]
        first
        | (refine tW 10 rfl ?_)
        | (refine tU 10 rfl ?_)
        simp only [zz]
        first
        | (refine tW 11 rfl ?_)
        | (refine tU 11 rfl ?_)
        simp only [zz]
        first
        | (refine tW 12 rfl ?_)
        | (refine tU 12 rfl ?_)
        simp only [zz]
        first
        | (refine tW 13 rfl ?_)
        | (refine tU 13 rfl ?_)
        simp only [zz]
        first
        | (refine tW 14 rfl ?_)
        | (refine tU 14 rfl ?_)
        simp only [zz]
        first
        | (refine tW 15 rfl ?_)
        | (refine tU 15 rfl ?_)
        simp only [zz]
        first
        | (refine tL 16 (v := ?_) rfl ⟨fun r hr => hM.get 0 hr, trivial⟩ (Or.inl ⟨by rfl, ?hy⟩) ?_; (case hy => (rintro W ⟨i0, -⟩; have c0 := (show At W _ _ _ from i0 _ rfl).cell; (try simp only [prC] at c0); (try simp only [HO.out] at c0); go_simp; (try with_reducible rfl))))
        | (refine tL 16 (v := undef) rfl ⟨fun r hr => hM.get 0 hr, trivial⟩ (Or.inr ⟨by rfl, rfl⟩) ?_)
        simp only [zz]
        refine tW 21 rfl ?_
        simp only [zz]
        refine tW 22 rfl ?_
        simp only [zz]
        refine wpI_one (i := 17) rfl (by kernel_rfl) ?_
        (try simp only [zz])
        go_wp2_with (first
            | go_skip)
        refine contI_normal ⟨fun r hr => hM.get 0 hr, trivial⟩ ?_
        (try simp only [zz])
        first
        | (refine tW 18 rfl ?_)
        | (refine tU 18 rfl ?_)
        simp only [zz]
        first
        | (refine tW 19 rfl ?_)
        | (refine tU 19 rfl ?_)
        simp only [zz]
        refine tW 20 rfl ?_
        simp only [zz]
        refine tW 23 rfl ?_
        simp only [zz]
        refine wpI_one (i := 24) rfl (by kernel_rfl) ?_
        (try simp only [zz])
        go_wp2_with (first
            | go_skip
            | (((with_reducible refine at_store_ ?_); refine sM 0 hM rfl rfl rfl ?_; clear hM; intro W hM; simp only [zF, zE, prR, pr6, pr7, pr8, pr9, pr10, pr11, pr12, pr13, pr14, pr15, pr16, pr17, pr18, pr19] at hM)))
        refine contI_late (by decide) ?_
        (try simp only [zz])
        refine wpI_done (by kernel_rfl) ?_ _
        (try simp only [zz])
        go_wp2_with fail
        go_meet
        case rel => exact ⟨_, hM⟩
      | true =>
        refine wp_region_M [0] [24] hM (by kernel_rfl) ?_
        clear hM
        intro wo hM
        refine tW 0 rfl ?_
        simp only [zz]
        refine tW 1 rfl ?_
        simp only [zz]
        refine tW 2 rfl ?_
        simp only [zz]
        refine tW 3 rfl ?_
        simp only [zz]
        refine tW 4 rfl ?_
        simp only [zz]
        refine tW 5 rfl ?_
        simp only [zz]
        refine tW 6 rfl ?_
        simp only [zz]
        refine tL 7 (v := ?_) rfl ⟨fun r hr => hM.get 0 hr, trivial⟩ (Or.inl ⟨by rfl, ?hy⟩) ?_
        case hy => (rintro W ⟨i0, -⟩; have c0 := (show At W _ _ _ from i0 _ rfl).cell; (try simp only [prC] at c0); (try simp only [HO.out] at c0); go_simp; (try with_reducible rfl))
        simp only [zz]
        refine tW 8 rfl ?_
        simp only [zz]
        first
        | (refine tW 9 rfl ?_)
        | (refine tU 9 rfl ?_)
        simp only [zz]
        first
        | (refine tW 10 rfl ?_)
        | (refine tU 10 rfl ?_)
        simp only [zz]
        first
        | (refine tW 11 rfl ?_)
        | (refine tU 11 rfl ?_)
        simp only [zz]
        first
        | (refine tW 12 rfl ?_)
        | (refine tU 12 rfl ?_)
        simp only [zz]
        first
        | (refine tW 13 rfl ?_)
        | (refine tU 13 rfl ?_)
        simp only [zz]
        first
        | (refine tW 14 rfl ?_)
        | (refine tU 14 rfl ?_)
        simp only [zz]
        first
        | (refine tW 15 rfl ?_)
        | (refine tU 15 rfl ?_)
        simp only [zz]
        first
        | (refine tL 16 (v := ?_) rfl ⟨fun r hr => hM.get 0 hr, trivial⟩ (Or.inl ⟨by rfl, ?hy⟩) ?_; (case hy => (rintro W ⟨i0, -⟩; have c0 := (show At W _ _ _ from i0 _ rfl).cell; (try simp only [prC] at c0); (try simp only [HO.out] at c0); go_simp; (try with_reducible rfl))))
        | (refine tL 16 (v := undef) rfl ⟨fun r hr => hM.get 0 hr, trivial⟩ (Or.inr ⟨by rfl, rfl⟩) ?_)
        simp only [zz]
        refine tW 21 rfl ?_
        simp only [zz]
        refine tW 22 rfl ?_
        simp only [zz]
        refine wpI_one (i := 17) rfl (by kernel_rfl) ?_
        (try simp only [zz])
        go_wp2_with (first
            | go_skip
            | ((go_at_call 17; refine (HWH.out _ hM).mono ?_; rintro e W ⟨rfl, rfl⟩; dsimp only)))
        refine contI_normal ⟨fun r hr => hM.get 0 hr, trivial⟩ ?_
        (try simp only [zz])
        first
        | (refine tW 18 rfl ?_)
        | (refine tU 18 rfl ?_)
        simp only [zz]
        first
        | (refine tW 19 rfl ?_)
        | (refine tU 19 rfl ?_)
        simp only [zz]
        refine tW 20 rfl ?_
        simp only [zz]
        refine tW 23 rfl ?_
        simp only [zz]
        refine wpI_one (i := 24) rfl (by kernel_rfl) ?_
        (try simp only [zz])
        go_wp2_with (first
            | go_skip
            | (((with_reducible refine at_store_ ?_); refine sM 0 hM rfl rfl rfl ?_; clear hM; intro W hM; simp only [zF, zE, prR, pr6, pr7, pr8, pr9, pr10, pr11, pr12, pr13, pr14, pr15, pr16, pr17, pr18, pr19] at hM)))
        refine contI_late (by decide) ?_
        (try simp only [zz])
        refine wpI_done (by kernel_rfl) ?_ _
        (try simp only [zz])
        go_wp2_with fail
        go_meet
        case rel => exact ⟨_, hM⟩
  case rest =>
    clear hM
    obtain ⟨z, hM⟩ := hcut
    have tg : decide ((p.w0.size : Int) < gN.size) = false := decide_eq_false (by have := HR4.out; omega)
    go_upto_region 5 with (first | go_skip | ((with_reducible refine at_load_ ?_); refine at_wanted_ (by rfl) ?_; first | (refine lM 0 hM rfl rfl rfl rfl ?_)))
    refine wp_region_M [0] [] hM (by kernel_rfl) ?_
    clear hM
    intro wo hM
    refine tW 0 rfl ?_
    simp only [zz]
    refine tW 1 rfl ?_
    simp only [zz]
    refine tW 2 rfl ?_
    simp only [zz]
    refine tW 3 rfl ?_
    simp only [zz]
    refine tW 4 rfl ?_
    simp only [zz]
    refine tL 5 (v := ?_) rfl ⟨fun r hr => hM.get 0 hr, trivial⟩ (Or.inl ⟨by rfl, ?hy⟩) ?_
    case hy => (rintro W ⟨i0, -⟩; have c0 := (show At W _ _ _ from i0 _ rfl).cell; (try simp only [prC] at c0); go_simp; (try with_reducible rfl))
    simp only [zz]
    refine tW 6 rfl ?_
    simp only [zz]
    refine tW 7 rfl ?_
    simp only [zz]
    refine tW 8 rfl ?_
    simp only [zz]
    refine tL 9 (v := .bool false) rfl ⟨fun r hr => hM.get 0 hr, trivial⟩ (Or.inl ⟨by rfl, ?hy⟩) ?_
    case hy => (rintro W ⟨i0, -⟩; have c0 := (show At W _ _ _ from i0 _ rfl).cell; (try simp only [prC] at c0); (go_simp; first | done | exact HR4.out))
    simp only [zz]
    refine tW 10 rfl ?_
    simp only [zz]
    first
    | (refine tW 11 rfl ?_)
    | (refine tU 11 rfl ?_)
    simp only [zz]
    first
    | (refine tW 12 rfl ?_)
    | (refine tU 12 rfl ?_)
    simp only [zz]
    first
    | (refine tW 13 rfl ?_)
    | (refine tU 13 rfl ?_)
    simp only [zz]
    first
    | (refine tW 14 rfl ?_)
    | (refine tU 14 rfl ?_)
    simp only [zz]
    first
    | (refine tW 15 rfl ?_)
    | (refine tU 15 rfl ?_)
    simp only [zz]
    first
    | (refine tW 16 rfl ?_)
    | (refine tU 16 rfl ?_)
    simp only [zz]
    first
    | (refine tL 17 (v := ?_) rfl ⟨fun r hr => hM.get 0 hr, trivial⟩ (Or.inl ⟨by rfl, ?hy⟩) ?_; (case hy => (rintro W ⟨i0, -⟩; have c0 := (show At W _ _ _ from i0 _ rfl).cell; (try simp only [prC] at c0); go_simp; (try with_reducible rfl))))
    | (refine tL 17 (v := undef) rfl ⟨fun r hr => hM.get 0 hr, trivial⟩ (Or.inr ⟨by rfl, rfl⟩) ?_)
    simp only [zz]
    first
    | (refine tW 18 rfl ?_)
    | (refine tU 18 rfl ?_)
    simp only [zz]
    first
    | (refine tL 19 (v := .string gN) rfl ⟨fun r hr => hM.get 0 hr, trivial⟩ (Or.inl ⟨by rfl, ?hy⟩) ?_; (case hy => (rintro W ⟨i0, -⟩; have c0 := (show At W _ _ _ from i0 _ rfl).cell; (try simp only [prC] at c0); (go_simp; first | done | (rw [HR5.out]; done) | exact ⟨HR4.out, HR5.out⟩ | (simp [HR4.out, HR5.out]; done) | (trace_state; fail)))))
    | (refine tU 19 rfl ?_)
    simp only [zz]
    first
    | (refine tW 20 rfl ?_)
    | (refine tU 20 rfl ?_)
    simp only [zz]
    first
    | (refine tW 21 rfl ?_)
    | (refine tU 21 rfl ?_)
    simp only [zz]
    first
    | (refine tW 22 rfl ?_)
    | (refine tU 22 rfl ?_)
    simp only [zz]
    first
    | (refine tW 23 rfl ?_)
    | (refine tU 23 rfl ?_)
    simp only [zz]
    first
    | (refine tW 24 rfl ?_)
    | (refine tU 24 rfl ?_)
    simp only [zz]
    first
    | (refine tL 25 (v := ?_) rfl ⟨fun r hr => hM.get 0 hr, trivial⟩ (Or.inl ⟨by rfl, ?hy⟩) ?_; (case hy => (rintro W ⟨i0, -⟩; have c0 := (show At W _ _ _ from i0 _ rfl).cell; (try simp only [prC] at c0); go_simp; (try with_reducible rfl))))
    | (refine tL 25 (v := undef) rfl ⟨fun r hr => hM.get 0 hr, trivial⟩ (Or.inr ⟨by rfl, rfl⟩) ?_)
    simp only [zz]
    first
    | (refine tL 26 (v := .bool false) rfl ⟨fun r hr => hM.get 0 hr, trivial⟩ (Or.inl ⟨by rfl, ?hy⟩) ?_; (case hy => (rintro W ⟨i0, -⟩; have c0 := (show At W _ _ _ from i0 _ rfl).cell; (try simp only [prC] at c0); (go_simp; first | done | rfl))))
    | (refine tU 26 rfl ?_)
    simp only [zz]
    refine tW 27 rfl ?_
    simp only [zz]
    refine wpI_done (by kernel_rfl) ?_ _
    (try simp only [zz])
    have HZT := Lib.hid (HST.out · z)
    clear HWH HST tg
    go_upto_region 7 with (fail)
    by_cases he : er = 0
    · have te : (er != 0) = false := by simpa using he
      clear he
      go_upto_region 9 with (fail)
      cases ov with
      | false =>
        go_wp2_with (first | go_skip | ((with_reducible refine at_load_ ?_); refine at_wanted_ (by rfl) ?_; first | (refine lM 0 hM rfl rfl rfl rfl ?_)) | (go_at_call 16; refine (HZT.out _ hM).mono ?_; rintro e W ⟨rfl, rfl⟩; dsimp only))
        refine bodyPost_ret (v := .bool true) (by simp [results, Try.results31, go_sem]) rfl ?_
        exact ⟨rfl, (⟨a, c1, ({ p with g1 := gN, o1 := z } : KPa)⟩ : KPr), hM, ⟨HKO.out, HK.out⟩, HEQ.out z⟩
      | true =>
        by_cases h0 : c1.st = 0
        · have t0 : (c1.st == 0) = true := by simpa using h0
          clear h0
          have hb0 := HBR.out
          go_wp2_with (first | go_skip | ((with_reducible refine at_load_ ?_); refine at_wanted_ (by rfl) ?_; first | (refine lM 0 hM rfl rfl rfl rfl ?_)) | (go_at_call 16; refine (HZT.out _ hM).mono ?_; rintro e W ⟨rfl, rfl⟩; dsimp only))
          refine bodyPost_ret (v := .bool true) (by simp [results, Try.results31, go_sem]) rfl ?_
          exact ⟨rfl, (⟨a, c1, ({ p with g1 := gN, o1 := z } : KPa)⟩ : KPr), hM, ⟨HKO.out, HK.out⟩, HEQ.out z⟩
        · have t0 : (c1.st == 0) = false := by simpa using h0
          obtain ⟨h1, h2⟩ := (HR3.out rfl).resolve_left h0
          clear h0
          have hb0 := HBR.out
          go_wp2_with (first | go_skip | ((with_reducible refine at_load_ ?_); refine at_wanted_ (by rfl) ?_; first | (refine lM 0 hM rfl rfl rfl rfl ?_)) | (go_at_call 16; refine (HZT.out _ hM).mono ?_; rintro e W ⟨rfl, rfl⟩; dsimp only))
          refine bodyPost_ret (v := .bool true) (by simp [results, Try.results31, go_sem]) rfl ?_
          exact ⟨rfl, (⟨a, c1, ({ p with g1 := gN, o1 := z } : KPa)⟩ : KPr), hM, ⟨HKO.out, HK.out⟩, HEQ.out z⟩
    · have te : (er != 0) = true := by simpa using he
      have hse := HR2.out he
      subst hse
      clear he
      go_upto_region 9 with (fail)
      cases ov with
      | false =>
        go_wp2_with (first | go_skip | ((with_reducible refine at_load_ ?_); refine at_wanted_ (by rfl) ?_; first | (refine lM 0 hM rfl rfl rfl rfl ?_)) | (go_at_call 16; refine (HZT.out _ hM).mono ?_; rintro e W ⟨rfl, rfl⟩; dsimp only))
        refine bodyPost_ret (v := .bool true) (by simp [results, Try.results31, go_sem]) rfl ?_
        exact ⟨rfl, (⟨a, c1, ({ p with g1 := gN, o1 := z } : KPa)⟩ : KPr), hM, ⟨HKO.out, HK.out⟩, HEQ.out z⟩
      | true =>
        by_cases h0 : c1.st = 0
        · have t0 : (c1.st == 0) = true := by simpa using h0
          clear h0
          have hb0 := HBR.out
          go_wp2_with (first | go_skip | ((with_reducible refine at_load_ ?_); refine at_wanted_ (by rfl) ?_; first | (refine lM 0 hM rfl rfl rfl rfl ?_)) | (go_at_call 16; refine (HZT.out _ hM).mono ?_; rintro e W ⟨rfl, rfl⟩; dsimp only))
          refine bodyPost_ret (v := .bool true) (by simp [results, Try.results31, go_sem]) rfl ?_
          exact ⟨rfl, (⟨a, c1, ({ p with g1 := gN, o1 := z } : KPa)⟩ : KPr), hM, ⟨HKO.out, HK.out⟩, HEQ.out z⟩
        · have t0 : (c1.st == 0) = false := by simpa using h0
          obtain ⟨h1, h2⟩ := (HR3.out rfl).resolve_left h0
          clear h0
          have hb0 := HBR.out
          go_wp2_with (first | go_skip | ((with_reducible refine at_load_ ?_); refine at_wanted_ (by rfl) ?_; first | (refine lM 0 hM rfl rfl rfl rfl ?_)) | (go_at_call 16; refine (HZT.out _ hM).mono ?_; rintro e W ⟨rfl, rfl⟩; dsimp only))
          refine bodyPost_ret (v := .bool true) (by simp [results, Try.results31, go_sem]) rfl ?_
          exact ⟨rfl, (⟨a, c1, ({ p with g1 := gN, o1 := z } : KPa)⟩ : KPr), hM, ⟨HKO.out, HK.out⟩, HEQ.out z⟩
end Go.Proofs.Ytfpifahkpkjfgaa
