/- What ConnStops needs, a part: WConnStops. -/
import Derived.Deep.CutBlock
import Derived.Test.YtfpifahkpkjfgaaMConnStops48
namespace Go.Proofs.Ytfpifahkpkjfgaa
open Go.RowKit Go.Lib
set_option linter.unusedVariables false
set_option linter.unusedSimpArgs false
theorem tq_p0 {E : Nat → Prop} {w0 W : World} (gp ga gia gwa : Nat) (ka : KPt) (gb gib gwb : Nat) (kb : KPt) (va : Value) (x : KPr) (m : List Res) {t : Int} (hc : CI x.a t) (ht : t ≤ 1000000000000) (n : Int) (hn : 0 ≤ n) (hn2 : n ≤ 1099511627776 - x.a.now) (h : MemX E w0 W (prM (⟨gp, ga, gia, gwa, ka, gb, gib, gwb, kb, va⟩ : KPl) x m)) (hok : KPl.ok (⟨gp, ga, gia, gwa, ka, gb, gib, gwb, kb, va⟩ : KPl) x) :
  Calls Try.prog 18 #[.pointer (some ⟨ga, 0, none⟩), .int .i64 n] W fun e W' => e = .returned (.int .i64 0) ∧ MemX E w0 W' (prM (⟨gp, ga, gia, gwa, ka, gb, gib, gwb, kb, va⟩ : KPl) (⟨cTick x.a n, x.b, x.p⟩ : KPr) m) ∧ KPl.ok (⟨gp, ga, gia, gwa, ka, gb, gib, gwb, kb, va⟩ : KPl) (⟨cTick x.a n, x.b, x.p⟩ : KPr) := by
 refine (tickF [prR gp ga gb va x.p, arR va x.p.air] (cnH gb gib gwb x.b kb ++ m) h hok.1 hc ht n hn hn2).mono ?_
 rintro e W' ⟨rfl, h2, hk⟩
 exact ⟨rfl, h2, ⟨hk, hok.2⟩⟩
theorem tq_p1 {E : Nat → Prop} {w0 W : World} (gp ga gia gwa : Nat) (ka : KPt) (gb gib gwb : Nat) (kb : KPt) (va : Value) (x : KPr) (m : List Res) {t : Int} (hc : CI x.b t) (ht : t ≤ 1000000000000) (n : Int) (hn : 0 ≤ n) (hn2 : n ≤ 1099511627776 - x.b.now) (h : MemX E w0 W (prM (⟨gp, ga, gia, gwa, ka, gb, gib, gwb, kb, va⟩ : KPl) x m)) (hok : KPl.ok (⟨gp, ga, gia, gwa, ka, gb, gib, gwb, kb, va⟩ : KPl) x) :
  Calls Try.prog 18 #[.pointer (some ⟨gb, 0, none⟩), .int .i64 n] W fun e W' => e = .returned (.int .i64 0) ∧ MemX E w0 W' (prM (⟨gp, ga, gia, gwa, ka, gb, gib, gwb, kb, va⟩ : KPl) (⟨x.a, cTick x.b n, x.p⟩ : KPr) m) ∧ KPl.ok (⟨gp, ga, gia, gwa, ka, gb, gib, gwb, kb, va⟩ : KPl) (⟨x.a, cTick x.b n, x.p⟩ : KPr) := by
 refine (tickF (prR gp ga gb va x.p :: arR va x.p.air :: cnH ga gia gwa x.a ka) m h hok.2 hc ht n hn hn2).mono ?_
 rintro e W' ⟨rfl, h2, hk⟩
 exact ⟨rfl, h2, ⟨hok.1, hk⟩⟩
theorem ba_inj {a b : ByteArray} (h : a.toList = b.toList) : a = b := by
 rw [ByteArray.toList_eq, ByteArray.toList_eq] at h
 exact str_ext h
set_option maxHeartbeats 16000000 in
set_option maxRecDepth 100000 in
theorem w_ConnStops (a0 : Int) (a1 : Int) (a2 : Int) (a3 : Int) (s4 : ByteArray) (w : World) (ha0 : 0 ≤ a0) (ha0' : a0 ≤ 4294967295) (ha1 : 0 ≤ a1) (ha1' : a1 ≤ 4294967295) (ha2 : -9223372036854775808 ≤ a2) (ha2' : a2 ≤ 9223372036854775807) (ha3 : -9223372036854775808 ≤ a3) (ha3' : a3 ≤ 9223372036854775807) (hs4 : s4.size ≤ 140737488351232) :
    Calls Try.prog 9 #[.int .u32 a0, .int .u32 a1, .int .i64 a2, .int .i64 a3, .string s4] w fun e w' => e = .returned (.bool true) ∧ Below w.heap.size w w' := by
  obtain ⟨y, hgy, hP, hya, hyb, hyair, hme⟩ := meet_all a0 a1 a2 a3 ha0 ha0' ha1 ha1' ha2 ha2' ha3 ha3'
  have HME := Lib.hid hme
  obtain ⟨nn, hnn⟩ : ∃ z : Int, z = (if (2000 : Int) < (s4.size : Int) then 2000 else (s4.size : Int)) := ⟨_, rfl⟩
  obtain ⟨T, hT⟩ : ∃ z, z = s4.extract 0 nn.toNat := ⟨_, rfl⟩
  have hTz : T.size ≤ 2000 := by
    have : nn ≤ 2000 := by rw [hnn]; split <;> omega
    rw [hT, ByteArray.size_extract]; omega
  have HNN := Lib.hid hnn
  have HT := Lib.hid hT
  have HTZ := Lib.hid hTz
  have HN1 := Lib.hid (show 0 ≤ nn ∧ nn ≤ s4.size from by rw [hnn]; split <;> omega)
  clear hnn
  obtain ⟨z, hwr, hrn⟩ := stops_all ⟨ha0, ha0'⟩ ⟨ha1, ha1'⟩ (by omega) (by omega) T hTz hgy hP hya hyb hyair
  have HWS := Lib.hid hwr
  have HRN := Lib.hid hrn
  clear hme hT hTz hP hya hyb hyair hgy hwr hrn
  go_enter Try.func9, Try.ntmps9
  go_upto_region 2 with (first | go_skip | (go_at_call 22; refine (HME.out _).mono ?_; clear hM; rintro e W ⟨gp, ga, gia, gwa, ka, gb, gib, gwb, kb, va, rfl, hM, hok⟩; have HOK := Lib.hid hok; clear hok; dsimp only) | (go_at_call 22; refine (HME.out _).mono ?_; rintro e W ⟨gp, ga, gia, gwa, ka, gb, gib, gwb, kb, va, rfl, hM, hok⟩; have HOK := Lib.hid hok; clear hok; dsimp only))
  go_upto_region 5 with (fail)
  rw [← HNN.out, ← HT.out]
  clear HME
  (go_upto_region 6 with (fail))
  go_loopg [30] 2 (fun gh i wr => ∃ (t : Nat) (x : KPr) (gia gwa gib gwb : Nat) (ka kb : KPt) (va : Value), gh = 2 - t ∧ t ≤ 2 ∧ i = .int .i64 t ∧ Mem w wr (prM (⟨gp, ga, gia, gwa, ka, gb, gib, gwb, kb, va⟩ : KPl) x []) ∧ Hid (Wrs T (2 - t) x z ∧ KPl.ok (⟨gp, ga, gia, gwa, ka, gb, gib, gwb, kb, va⟩ : KPl) x))
  case atStart => exact ⟨0, y, gia, gwa, gib, gwb, ka, kb, va, rfl, by decide, rfl, hM, Lib.hid ⟨HWS.out, HOK.out⟩⟩
  case round =>
    clear hM HOK HWS
    obtain ⟨t, x, gia, gwa, gib, gwb, ka, kb, va, hgh, ht, rfl, hM, HX⟩ := hrel
    have HGH := Lib.hid hgh
    clear hgh
    have hx := HX.out.1
    have HOK := Lib.hid HX.out.2
    obtain ⟨j, hj⟩ : ∃ j, j = 2 - t := ⟨_, rfl⟩
    rw [← hj] at hx
    clear HX
    cases j with
    | succ j =>
      have ht2 : t < 2 := by omega
      have tt : decide ((t : Int) < 2) = true := decide_eq_true (by omega)
      have ttn : decide (t < 2) = true := decide_eq_true ht2
      obtain ⟨x1, x2, t1, k1, ht1, ci, wn, we, so, hk, hq, hsz, hnx⟩ := hx
      obtain ⟨xa, xb, xp⟩ := x
      dsimp only at ci wn we so hsz hM HOK
      have HNX := Lib.hid (show Wrs T (2 - (t + 1)) x2 z from by rw [show 2 - (t + 1) = j by omega]; exact hnx)
      have HLT := Lib.hid ht2
      obtain ⟨n, hn⟩ : ∃ z, z = (cWrite xa T).2.1 := ⟨_, rfl⟩
      rw [← hn] at wn
      have HWR := fun (W : World) (gia gwa : Nat) (ka : KPt) (gib gwb : Nat) (kb : KPt) (va : Value) (h : Mem w W (prM (⟨gp, ga, gia, gwa, ka, gb, gib, gwb, kb, va⟩ : KPl) (⟨xa, xb, xp⟩ : KPr) [])) (hok : KPl.ok (⟨gp, ga, gia, gwa, ka, gb, gib, gwb, kb, va⟩ : KPl) (⟨xa, xb, xp⟩ : KPr)) => wr_p0 gp ga gia gwa ka gb gib gwb kb va ⟨xa, xb, xp⟩ [] ci (by omega) T (by have := HTZ.out; omega) h hok
      try dsimp only at HWR
      rw [we, ← hn] at HWR
      replace HWR := Lib.hid HWR
      obtain ⟨c1, hc1⟩ : ∃ z, z = (cWrite xa T).1 := ⟨_, rfl⟩
      rw [← hc1] at so HWR
      obtain ⟨p2, hp2⟩ : ∃ z : KPa, z = { xp with w0 := xp.w0 ++ T } := ⟨_, rfl⟩
      rw [← hp2] at so
      have HS3 := fun (W : World) (gia gwa : Nat) (ka : KPt) (gib gwb : Nat) (kb : KPt) (va : Value) (h : Mem w W (prM (⟨gp, ga, gia, gwa, ka, gb, gib, gwb, kb, va⟩ : KPl) (⟨c1, xb, p2⟩ : KPr) [])) (hok : KPl.ok (⟨gp, ga, gia, gwa, ka, gb, gib, gwb, kb, va⟩ : KPl) (⟨c1, xb, p2⟩ : KPr)) => sends_p gp ga gia gwa ka gb gib gwb kb va ⟨c1, xb, p2⟩ x1 [] so h hok
      try dsimp only at HS3
      replace HS3 := Lib.hid HS3
      have HQ4 := fun (W : World) (gia gwa : Nat) (ka : KPt) (gib gwb : Nat) (kb : KPt) (va : Value) (h : Mem w W (prM (⟨gp, ga, gia, gwa, ka, gb, gib, gwb, kb, va⟩ : KPl) x1 [])) (hok : KPl.ok (⟨gp, ga, gia, gwa, ka, gb, gib, gwb, kb, va⟩ : KPl) x1) => quiet_p gp ga gia gwa ka gb gib gwb kb va x1 x2 [] k1 hk hq h hok
      try dsimp only at HQ4
      replace HQ4 := Lib.hid HQ4
      have HSX := Lib.hid (show T.extract 0 n.toNat = T from by rw [wn, Int.toNat_natCast]; exact ByteArray.extract_zero_size)
      have HW := Lib.hid wn
      have HP2 := Lib.hid hp2
      have HN2 := Lib.hid (show 0 ≤ n ∧ n ≤ T.size from by omega)
      have HLN := Lib.hid (show xp.w0.size + T.size ≤ 9223372036854775807 from by have := HTZ.out; omega)
      have t1 : decide ((T.size : Int) < n) = false := decide_eq_false (by omega)
      have t2 : decide (n < 0) = false := decide_eq_false (by omega)
      have hjb : (t : Int) + 1 ≤ 9223372036854775807 := by omega
      clear hn wn we so ci hk hq hsz hnx hc1 hp2 hj ht1 ht2 ht
      go_upto_region 10 with (first | go_skip | ((with_reducible refine at_load_ ?_); refine at_wanted_ (by rfl) ?_; first | (refine lM 0 hM rfl rfl rfl rfl ?_)) | (go_at_call 23; first | ((with_reducible refine (HWR.out _ _ _ _ _ _ _ _ hM HOK.out).mono ?_); clear hM HOK; rintro e W ⟨k1, rfl, hM, hok⟩; have HOK := Lib.hid hok; clear hok; dsimp only)))
      refine wp_region_M [0] [12] hM (by kernel_rfl) ?_
      clear hM
      intro wo hM
      refine tW 0 rfl ?_
      simp only [zz]
      refine tW 1 rfl ?_
      simp only [zz]
      refine tW 2 rfl ?_
      simp only [zz]
      refine tW 3 rfl ?_
      simp only [zz]
      refine tL 4 (v := ?_) rfl ⟨fun r hr => hM.get 0 hr, trivial⟩ (Or.inl ⟨by rfl, ?hy⟩) ?_
      case hy => (rintro W ⟨i0, -⟩; have c0 := (show At W _ _ _ from i0 _ rfl).cell; (try simp only [prC] at c0); go_simp; (try with_reducible rfl))
      simp only [zz]
      refine tW 5 rfl ?_
      simp only [zz]
      refine tW 6 rfl ?_
      simp only [zz]
      refine tL 7 (v := .string T) rfl ⟨fun r hr => hM.get 0 hr, trivial⟩ (Or.inl ⟨by rfl, ?hy⟩) ?_
      case hy => (rintro W ⟨i0, -⟩; have c0 := (show At W _ _ _ from i0 _ rfl).cell; (try simp only [prC] at c0); (go_simp; rw [if_pos HN2.out, HSX.out]))
      simp only [zz]
      refine tL 8 (v := .string (xp.w0 ++ T)) rfl ⟨fun r hr => hM.get 0 hr, trivial⟩ (Or.inl ⟨by rfl, ?hy⟩) ?_
      case hy => (rintro W ⟨i0, -⟩; have c0 := (show At W _ _ _ from i0 _ rfl).cell; (try simp only [prC] at c0); (go_simp; exact HLN.out))
      simp only [zz]
      refine tW 9 rfl ?_
      simp only [zz]
      refine tW 10 rfl ?_
      simp only [zz]
      refine tW 11 rfl ?_
      simp only [zz]
      refine wpI_one (i := 12) rfl (by kernel_rfl) ?_
      (try simp only [zz])
      go_wp2_with (first
          | go_skip
          | (((with_reducible refine at_store_ ?_); refine sM 0 hM rfl rfl rfl ?_; clear hM; intro W hM; simp only [zF, zE, prR, pr6, pr7, pr8, pr9, pr10, pr11, pr12, pr13, pr14, pr15, pr16, pr17, pr18, pr19] at hM)))
      refine contI_late (by decide) ?_
      (try simp only [zz])
      refine wpI_done (by kernel_rfl) ?_ _
      (try simp only [zz])
      replace hM := (show Mem w W (prR gp ga gb va ({ xp with w0 := xp.w0 ++ T } : KPa) :: arR va ({ xp with w0 := xp.w0 ++ T } : KPa).air :: (cnH ga gia gwa c1 k1 ++ (cnH gb gib gwb xb kb ++ []))) from hM)
      rw [← HP2.out] at hM
      replace hM := (show Mem w W (prM (⟨gp, ga, gia, gwa, k1, gb, gib, gwb, kb, va⟩ : KPl) (⟨c1, xb, p2⟩ : KPr) []) from hM)
      replace HOK := Lib.hid (show KPl.ok (⟨gp, ga, gia, gwa, k1, gb, gib, gwb, kb, va⟩ : KPl) (⟨c1, xb, p2⟩ : KPr) from HOK.out)
      clear HWR HP2
      go_wp2_with (first | go_skip | ((with_reducible refine at_load_ ?_); refine at_wanted_ (by rfl) ?_; first | (refine lM 0 hM rfl rfl rfl rfl ?_)) | (go_at_call 21; first | ((with_reducible refine (HS3.out _ _ _ _ _ _ _ _ hM HOK.out).mono ?_); clear hM HOK; rintro e W ⟨rfl, ka3, kb3, va3, hM, hok⟩; have HOK := Lib.hid hok; clear hok; dsimp only)) | (go_at_call 24; first | ((with_reducible refine (HQ4.out _ _ _ _ _ _ _ _ hM HOK.out).mono ?_); clear hM HOK; rintro e W ⟨rfl, gia4, gwa4, ka4, gib4, gwb4, kb4, va4, hM, hok⟩; have HOK := Lib.hid hok; clear hok; dsimp only)))
      go_roundg (2 - (t + 1))
      case measure => have := HGH.out; have := HLT.out; omega
      case rel => exact ⟨t + 1, x2, gia4, gwa4, gib4, gwb4, ka4, kb4, va4, rfl, by have := HLT.out; omega, by go_num, hM, Lib.hid ⟨HNX.out, HOK.out⟩⟩
    | zero =>
      obtain rfl : t = 2 := by omega
      have hxz : x = z := hx
      subst hxz
      clear hx hj ht HGH
      go_upto_region 15 with (fail)
      go_loopg [79] 200 (fun gh i wr => ∃ (t j : Nat) (x : KPr) (gia gwa gib gwb : Nat) (ka kb : KPt) (va : Value), gh = 200 - t ∧ t + j ≤ 200 ∧ i = .int .i64 t ∧ Mem w wr (prM (⟨gp, ga, gia, gwa, ka, gb, gib, gwb, kb, va⟩ : KPl) x []) ∧ Hid (Rnd j x ∧ KPl.ok (⟨gp, ga, gia, gwa, ka, gb, gib, gwb, kb, va⟩ : KPl) x))
      case atStart => exact ⟨0, 6, x, gia, gwa, gib, gwb, ka, kb, va, rfl, by decide, rfl, hM, Lib.hid ⟨HRN.out, HOK.out⟩⟩
      case round =>
        clear hM HOK HRN
        obtain ⟨t, j, x, gia, gwa, gib, gwb, ka, kb, va, hgh, ht, rfl, hM, HX⟩ := hrel
        have HGH := Lib.hid hgh
        clear hgh
        have hx := HX.out.1
        have HOK := Lib.hid HX.out.2
        clear HX
        cases j with
        | zero => exact hx.elim
        | succ j =>
          have tt : decide ((t : Int) < 200) = true := decide_eq_true (by omega)
          have ttn : decide (t < 200) = true := decide_eq_true (by omega)
          obtain ⟨x1, x2, t1, k1, ht1, cia, cib, hna, hnb, so, hk, hq, ci2, r1, r2, ⟨iss, irs, N, hP2⟩, hfa⟩ := hx
          obtain ⟨xa, xb, xp⟩ := x
          dsimp only at cia cib hna hnb so hM HOK
          have HLT := Lib.hid ht
          have HFA := Lib.hid hfa
          have HTA := fun (W : World) (gia gwa : Nat) (ka : KPt) (gib gwb : Nat) (kb : KPt) (va : Value) (h : Mem w W (prM (⟨gp, ga, gia, gwa, ka, gb, gib, gwb, kb, va⟩ : KPl) (⟨xa, xb, xp⟩ : KPr) [])) (hok : KPl.ok (⟨gp, ga, gia, gwa, ka, gb, gib, gwb, kb, va⟩ : KPl) (⟨xa, xb, xp⟩ : KPr)) => tq_p0 gp ga gia gwa ka gb gib gwb kb va ⟨xa, xb, xp⟩ [] cia (by omega) 3 (by decide) (by dsimp only; omega) h hok
          try dsimp only at HTA
          replace HTA := Lib.hid HTA
          obtain ⟨ca, hca⟩ : ∃ z, z = cTick xa 3 := ⟨_, rfl⟩
          rw [← hca] at so HTA
          have HTB := fun (W : World) (gia gwa : Nat) (ka : KPt) (gib gwb : Nat) (kb : KPt) (va : Value) (h : Mem w W (prM (⟨gp, ga, gia, gwa, ka, gb, gib, gwb, kb, va⟩ : KPl) (⟨ca, xb, xp⟩ : KPr) [])) (hok : KPl.ok (⟨gp, ga, gia, gwa, ka, gb, gib, gwb, kb, va⟩ : KPl) (⟨ca, xb, xp⟩ : KPr)) => tq_p1 gp ga gia gwa ka gb gib gwb kb va ⟨ca, xb, xp⟩ [] cib (by omega) 3 (by decide) (by dsimp only; omega) h hok
          try dsimp only at HTB
          replace HTB := Lib.hid HTB
          obtain ⟨cb, hcb⟩ : ∃ z, z = cTick xb 3 := ⟨_, rfl⟩
          rw [← hcb] at so HTB
          have HS3 := fun (W : World) (gia gwa : Nat) (ka : KPt) (gib gwb : Nat) (kb : KPt) (va : Value) (h : Mem w W (prM (⟨gp, ga, gia, gwa, ka, gb, gib, gwb, kb, va⟩ : KPl) (⟨ca, cb, xp⟩ : KPr) [])) (hok : KPl.ok (⟨gp, ga, gia, gwa, ka, gb, gib, gwb, kb, va⟩ : KPl) (⟨ca, cb, xp⟩ : KPr)) => sends_p gp ga gia gwa ka gb gib gwb kb va ⟨ca, cb, xp⟩ x1 [] so h hok
          try dsimp only at HS3
          replace HS3 := Lib.hid HS3
          have HQ4 := fun (W : World) (gia gwa : Nat) (ka : KPt) (gib gwb : Nat) (kb : KPt) (va : Value) (h : Mem w W (prM (⟨gp, ga, gia, gwa, ka, gb, gib, gwb, kb, va⟩ : KPl) x1 [])) (hok : KPl.ok (⟨gp, ga, gia, gwa, ka, gb, gib, gwb, kb, va⟩ : KPl) x1) => quiet_p gp ga gia gwa ka gb gib gwb kb va x1 x2 [] k1 hk hq h hok
          try dsimp only at HQ4
          replace HQ4 := Lib.hid HQ4
          obtain ⟨s0, hs0⟩ : ∃ z, z = (cRead x2.b 0).2.1 := ⟨_, rfl⟩
          obtain ⟨o0, ho0⟩ : ∃ z, z = (cRead x2.b 0).2.2.1 := ⟨_, rfl⟩
          obtain ⟨e0, he0⟩ : ∃ z, z = (cRead x2.b 0).2.2.2 := ⟨_, rfl⟩
          have HR0 := fun (W : World) (gia gwa : Nat) (ka : KPt) (gib gwb : Nat) (kb : KPt) (va : Value) (h : Mem w W (prM (⟨gp, ga, gia, gwa, ka, gb, gib, gwb, kb, va⟩ : KPl) x2 [])) (hok : KPl.ok (⟨gp, ga, gia, gwa, ka, gb, gib, gwb, kb, va⟩ : KPl) x2) => rd_p1 gp ga gia gwa ka gb gib gwb kb va x2 [] ci2 0 (by decide) (by decide) h hok
          try dsimp only at HR0
          rw [r1, ← hs0, ← ho0, ← he0] at HR0
          replace HR0 := Lib.hid HR0
          rw [← hs0] at r2
          have tS : s0.toList.isEmpty = true := by rw [r2]; exact str_none rfl
          have tS2 : (!s0.toList.isEmpty) = false := by rw [tS]; rfl
          have HTS := Lib.hid tS
          have HRS := fun (W : World) (gia gwa : Nat) (ka : KPt) (gib gwb : Nat) (kb : KPt) (va : Value) (h : Mem w W (prM (⟨gp, ga, gia, gwa, ka, gb, gib, gwb, kb, va⟩ : KPl) x2 [])) (hok : KPl.ok (⟨gp, ga, gia, gwa, ka, gb, gib, gwb, kb, va⟩ : KPl) x2) => reads_1 (⟨gp, ga, gia, gwa, ka, gb, gib, gwb, kb, va⟩ : KPl) x2 [] W h hok hP2 700 (by decide) (by decide)
          try dsimp only at HRS
          replace HRS := Lib.hid HRS
          clear cia cib hna hnb so hk hq ci2 r1 r2 hP2 hfa hca hcb hs0 ho0 he0 ht1 ht tS tS2
          go_upto_region 18 with (first | go_skip | ((with_reducible refine at_load_ ?_); refine at_wanted_ (by rfl) ?_; first | (refine lM 0 hM rfl rfl rfl rfl ?_)) | (go_at_call 18; first | ((with_reducible refine (HTA.out _ _ _ _ _ _ _ _ hM HOK.out).mono ?_); clear hM HOK; rintro e W ⟨rfl, hM, hok⟩; have HOK := Lib.hid hok; clear hok; dsimp only) | ((with_reducible refine (HTB.out _ _ _ _ _ _ _ _ hM HOK.out).mono ?_); clear hM HOK; rintro e W ⟨rfl, hM, hok⟩; have HOK := Lib.hid hok; clear hok; dsimp only)) | (go_at_call 21; first | ((with_reducible refine (HS3.out _ _ _ _ _ _ _ _ hM HOK.out).mono ?_); clear hM HOK; rintro e W ⟨rfl, ka3, kb3, va3, hM, hok⟩; have HOK := Lib.hid hok; clear hok; dsimp only)) | (go_at_call 24; first | ((with_reducible refine (HQ4.out _ _ _ _ _ _ _ _ hM HOK.out).mono ?_); clear hM HOK; rintro e W ⟨rfl, gia4, gwa4, ka4, gib4, gwb4, kb4, va4, hM, hok⟩; have HOK := Lib.hid hok; clear hok; dsimp only)))
          clear HTA HTB HS3 HQ4
          go_upto_region 19 with (first | go_skip | ((with_reducible refine at_load_ ?_); refine at_wanted_ (by rfl) ?_; first | (refine lM 0 hM rfl rfl rfl rfl ?_)) | (go_at_call 26; first | ((with_reducible refine (HR0.out _ _ _ _ _ _ _ _ hM HOK.out).mono ?_); clear hM HOK; rintro e W ⟨rfl, hM, hok⟩; have HOK := Lib.hid hok; clear hok; dsimp only)))
          replace hM := (show Mem w W (prM (⟨gp, ga, gia4, gwa4, ka4, gb, gib4, gwb4, kb4, va4⟩ : KPl) x2 []) from hM)
          replace HOK := Lib.hid (show KPl.ok (⟨gp, ga, gia4, gwa4, ka4, gb, gib4, gwb4, kb4, va4⟩ : KPl) x2 from HOK.out)
          have tS := HTS.out
          have tS2 : (!s0.toList.isEmpty) = false := by rw [tS]; rfl
          go_upto_region 21 with (fail)
          clear tS tS2 HR0
          go_upto_region 23 with (first | go_skip | ((with_reducible refine at_load_ ?_); refine at_wanted_ (by rfl) ?_; first | (refine lM 0 hM rfl rfl rfl rfl ?_)) | (go_at_call 31; first | ((with_reducible refine (HRS.out _ _ _ _ _ _ _ _ hM HOK.out).mono ?_); clear hM HOK; rintro e W ⟨rfl, yy, hM, hok, oo, rfl⟩; obtain ⟨z5, so5, hair5, hgo5, hg5, hw5⟩ := HFA.out oo; have HOK := Lib.hid hok; clear hok; dsimp only; have HS5 := Lib.hid (fun (W : World) (gia gwa : Nat) (ka : KPt) (gib gwb : Nat) (kb : KPt) (va : Value) (h : Mem w W (prM (⟨gp, ga, gia, gwa, ka, gb, gib, gwb, kb, va⟩ : KPl) (rd1 x2 700 oo) [])) (hok : KPl.ok (⟨gp, ga, gia, gwa, ka, gb, gib, gwb, kb, va⟩ : KPl) (rd1 x2 700 oo)) => sends_p gp ga gia gwa ka gb gib gwb kb va (rd1 x2 700 oo) z5 [] so5 h hok); have HQ6 := Lib.hid (fun (W : World) (gia gwa : Nat) (ka : KPt) (gib gwb : Nat) (kb : KPt) (va : Value) (h : Mem w W (prM (⟨gp, ga, gia, gwa, ka, gb, gib, gwb, kb, va⟩ : KPl) z5 [])) (hok : KPl.ok (⟨gp, ga, gia, gwa, ka, gb, gib, gwb, kb, va⟩ : KPl) z5) => quiet_p gp ga gia gwa ka gb gib gwb kb va z5 z5 [] 0 (by decide) ⟨rfl, hair5⟩ h hok))) | (go_at_call 21; first | ((with_reducible refine (HS5.out _ _ _ _ _ _ _ _ hM HOK.out).mono ?_); clear hM HOK; rintro e W ⟨rfl, ka5, kb5, va5, hM, hok⟩; have HOK := Lib.hid hok; clear hok; dsimp only)) | (go_at_call 24; first | ((with_reducible refine (HQ6.out _ _ _ _ _ _ _ _ hM HOK.out).mono ?_); clear hM HOK; rintro e W ⟨rfl, gia6, gwa6, ka6, gib6, gwb6, kb6, va6, hM, hok⟩; have HOK := Lib.hid hok; clear hok; dsimp only)))
          have HGO := Lib.hid hgo5
          clear HS5 HQ6 HRS HFA so5 hair5 hgo5 hg5 hw5
          obtain ⟨za, zb, zp⟩ := z5
          dsimp only at hM HOK HGO
          replace hM := (show Mem w W (prR gp ga gb va6 zp :: arR va6 zp.air :: (cnH ga gia6 gwa6 za ka6 ++ (cnH gb gib6 gwb6 zb kb6 ++ []))) from hM)
          by_cases heq : zp.g1 = zp.w0
          · have tq : zp.g1.toList = zp.w0.toList := by rw [heq]
            refine wp_region_M [0] [] hM (by kernel_rfl) ?_
            clear hM
            intro wo hM
            refine tW 0 rfl ?_
            simp only [zz]
            refine tW 1 rfl ?_
            simp only [zz]
            refine tW 2 rfl ?_
            simp only [zz]
            refine tW 3 rfl ?_
            simp only [zz]
            refine tL 4 (v := ?_) rfl ⟨fun r hr => hM.get 0 hr, trivial⟩ (Or.inl ⟨by rfl, ?hy⟩) ?_
            case hy => (rintro W ⟨i0, -⟩; have c0 := (show At W _ _ _ from i0 _ rfl).cell; (try simp only [prC] at c0); go_simp; (try with_reducible rfl))
            simp only [zz]
            refine tW 5 rfl ?_
            simp only [zz]
            refine tW 6 rfl ?_
            simp only [zz]
            refine tW 7 rfl ?_
            simp only [zz]
            refine tW 8 rfl ?_
            simp only [zz]
            refine tL 9 (v := ?_) rfl ⟨fun r hr => hM.get 0 hr, trivial⟩ (Or.inl ⟨by rfl, ?hy⟩) ?_
            case hy => (rintro W ⟨i0, -⟩; have c0 := (show At W _ _ _ from i0 _ rfl).cell; (try simp only [prC] at c0); go_simp; (try with_reducible rfl))
            simp only [zz]
            refine tL 10 (v := .bool true) rfl ⟨fun r hr => hM.get 0 hr, trivial⟩ (Or.inl ⟨by rfl, ?hy⟩) ?_
            case hy => (rintro W ⟨i0, -⟩; have c0 := (show At W _ _ _ from i0 _ rfl).cell; (try simp only [prC] at c0); (go_simp; first | done | exact heq | exact tq))
            simp only [zz]
            refine wpI_done (by kernel_rfl) ?_ _
            (try simp only [zz])
            (go_wp2_with fail)
            refine bodyPost_ret (v := .bool true) (by simp [results, Try.results9, go_sem]) rfl ?_
            exact ⟨rfl, hM.b⟩
          · have tq : ¬ zp.g1.toList = zp.w0.toList := fun e => heq (ba_inj e)
            have hnx := (HGO.out.resolve_left heq).2
            have HNX := Lib.hid hnx
            have hjb : (t : Int) + 1 ≤ 9223372036854775807 := by have := HLT.out; omega
            clear hnx
            refine wp_region_M [0] [] hM (by kernel_rfl) ?_
            clear hM
            intro wo hM
            refine tW 0 rfl ?_
            simp only [zz]
            refine tW 1 rfl ?_
            simp only [zz]
            refine tW 2 rfl ?_
            simp only [zz]
            refine tW 3 rfl ?_
            simp only [zz]
            refine tL 4 (v := ?_) rfl ⟨fun r hr => hM.get 0 hr, trivial⟩ (Or.inl ⟨by rfl, ?hy⟩) ?_
            case hy => (rintro W ⟨i0, -⟩; have c0 := (show At W _ _ _ from i0 _ rfl).cell; (try simp only [prC] at c0); go_simp; (try with_reducible rfl))
            simp only [zz]
            refine tW 5 rfl ?_
            simp only [zz]
            refine tW 6 rfl ?_
            simp only [zz]
            refine tW 7 rfl ?_
            simp only [zz]
            refine tW 8 rfl ?_
            simp only [zz]
            refine tL 9 (v := ?_) rfl ⟨fun r hr => hM.get 0 hr, trivial⟩ (Or.inl ⟨by rfl, ?hy⟩) ?_
            case hy => (rintro W ⟨i0, -⟩; have c0 := (show At W _ _ _ from i0 _ rfl).cell; (try simp only [prC] at c0); go_simp; (try with_reducible rfl))
            simp only [zz]
            refine tL 10 (v := .bool false) rfl ⟨fun r hr => hM.get 0 hr, trivial⟩ (Or.inl ⟨by rfl, ?hy⟩) ?_
            case hy => (rintro W ⟨i0, -⟩; have c0 := (show At W _ _ _ from i0 _ rfl).cell; (try simp only [prC] at c0); (go_simp; first | done | exact heq | exact tq))
            simp only [zz]
            refine wpI_done (by kernel_rfl) ?_ _
            (try simp only [zz])
            (go_wp2_with fail)
            go_roundg (200 - (t + 1))
            case measure => have := HGH.out; have := HLT.out; omega
            case rel => exact ⟨t + 1, j, ⟨za, zb, zp⟩, gia6, gwa6, gib6, gwb6, ka6, kb6, va6, rfl, by have := HLT.out; omega, by go_num, hM, Lib.hid ⟨HNX.out, HOK.out⟩⟩
end Go.Proofs.Ytfpifahkpkjfgaa
