/- What ConnHalf needs, a part: WConnHalf. -/
import Derived.Deep.CutBlock
import Derived.Test.YtfpifahkpkjfgaaMZ
import Derived.Test.YtfpifahkpkjfgaaMConnHalf44
/- conn: the walk of ConnHalf. Written by my gencn.py. -/
namespace Go.Proofs.Ytfpifahkpkjfgaa
open Go.RowKit Go.Lib
set_option linter.unusedVariables false
set_option linter.unusedSimpArgs false
theorem tk_p0 {E : Nat → Prop} {w0 W : World} (gp ga gia gwa : Nat) (ka : KPt) (gb gib gwb : Nat) (kb : KPt) (va : Value) (x : KPr) (m : List Res) {t : Int} (hc : CI x.a t) (ht : t ≤ 1000000000000) (n : Int) (hn : 0 ≤ n) (hn2 : n ≤ 1099511627776 - x.a.now) (h : MemX E w0 W (prM (⟨gp, ga, gia, gwa, ka, gb, gib, gwb, kb, va⟩ : KPl) x m)) (hok : KPl.ok (⟨gp, ga, gia, gwa, ka, gb, gib, gwb, kb, va⟩ : KPl) x) :
  Calls Try.prog 18 #[.pointer (some ⟨ga, 0, none⟩), .int .i64 n] W fun e W' => e = .returned (.int .i64 0) ∧ MemX E w0 W' (prM (⟨gp, ga, gia, gwa, ka, gb, gib, gwb, kb, va⟩ : KPl) (⟨cTick x.a n, x.b, x.p⟩ : KPr) m) ∧ KPl.ok (⟨gp, ga, gia, gwa, ka, gb, gib, gwb, kb, va⟩ : KPl) (⟨cTick x.a n, x.b, x.p⟩ : KPr) := by
 refine (tickF [prR gp ga gb va x.p, arR va x.p.air] (cnH gb gib gwb x.b kb ++ m) h hok.1 hc ht n hn hn2).mono ?_
 rintro e W' ⟨rfl, h2, hk⟩
 exact ⟨rfl, h2, ⟨hk, hok.2⟩⟩
set_option maxHeartbeats 16000000 in
set_option maxRecDepth 100000 in
theorem w_ConnHalf (a0 : Int) (a1 : Int) (a2 : Int) (a3 : Int) (s4 : ByteArray) (s5 : ByteArray) (w : World) (ha0 : 0 ≤ a0) (ha0' : a0 ≤ 4294967295) (ha1 : 0 ≤ a1) (ha1' : a1 ≤ 4294967295) (ha2 : -9223372036854775808 ≤ a2) (ha2' : a2 ≤ 9223372036854775807) (ha3 : -9223372036854775808 ≤ a3) (ha3' : a3 ≤ 9223372036854775807) (hs4 : s4.size ≤ 140737488351232) (hs5 : s5.size ≤ 140737488351232) :
  Calls Try.prog 12 #[.int .u32 a0, .int .u32 a1, .int .i64 a2, .int .i64 a3, .string s4, .string s5] w fun e w' => e = .returned (.bool true) ∧ Below w.heap.size w w' := by
 obtain ⟨y, hP, hya, hyb, hyair, hme⟩ := meet_any a0 a1 a2 a3 ha0 ha0' ha1 ha1' ha2 ha2' ha3 ha3'
 have HME := Lib.hid hme
 obtain ⟨nn, hnn⟩ : ∃ z : Int, z = (if (1000 : Int) < (s4.size : Int) then 1000 else (s4.size : Int)) := ⟨_, rfl⟩
 obtain ⟨H, hH⟩ : ∃ z, z = s4.extract 0 nn.toNat := ⟨_, rfl⟩
 have hHz : H.size ≤ 1000 := by
  have : nn ≤ 1000 := by rw [hnn]; split <;> omega
  rw [hH, ByteArray.size_extract]; omega
 obtain ⟨mm, hmm⟩ : ∃ z : Int, z = (if (1000 : Int) < (s5.size : Int) then 1000 else (s5.size : Int)) := ⟨_, rfl⟩
 obtain ⟨T, hT⟩ : ∃ z, z = s5.extract 0 mm.toNat := ⟨_, rfl⟩
 have hTz : T.size ≤ 1000 := by
  have : mm ≤ 1000 := by rw [hmm]; split <;> omega
  rw [hT, ByteArray.size_extract]; omega
 have HNN := Lib.hid hnn
 have HMM := Lib.hid hmm
 have HH := Lib.hid hH
 have HT := Lib.hid hT
 have HN1 := Lib.hid (show 0 ≤ nn ∧ nn ≤ s4.size from by rw [hnn]; split <;> omega)
 have HN2 := Lib.hid (show 0 ≤ mm ∧ mm ≤ s5.size from by rw [hmm]; split <;> omega)
 clear hnn hmm
 obtain ⟨x3, x4, x6, x7, x11, x12, A⟩ := half_all ⟨ha0, ha0'⟩ ⟨ha1, ha1'⟩ (by omega) (by omega) H T hHz hTz hP hya hyb hyair
 obtain ⟨wn, we, ⟨t1, ht1, ci1⟩, ce, s3, ⟨k4, hk4, q4⟩, ⟨t4, ht4, ci4⟩, wn2, we2, s6, ⟨k7, hk7, q7⟩, ⟨t7, ht7, ci7⟩, rb, ⟨t7', ht7', ci7'⟩, ra, st9a, st9b, ⟨t9, ht9, ci9⟩, ce2, s11, ⟨k12, hk12, q12⟩, st12b, wy12b, st12a, ⟨t12, ht12, ci12⟩, n12, ts, tw⟩ := A
 have hcy := hP.ciA
 have HWR := fun (W : World) (gp ga gia gwa : Nat) (ka : KPt) (gb gib gwb : Nat) (kb : KPt) (va : Value) (h : Mem w W (prM (⟨gp, ga, gia, gwa, ka, gb, gib, gwb, kb, va⟩ : KPl) y [])) (hok : KPl.ok (⟨gp, ga, gia, gwa, ka, gb, gib, gwb, kb, va⟩ : KPl) y) => wr_p0 gp ga gia gwa ka gb gib gwb kb va y [] hcy (by decide) H (by omega) h hok
 try dsimp only at HWR
 rw [wn, we] at HWR
 replace HWR := Lib.hid HWR
 obtain ⟨c1, hc1⟩ : ∃ z, z = (cWrite y.a H).1 := ⟨_, rfl⟩
 rw [← hc1] at ci1 ce s3 HWR
 have HCL := fun (W : World) (gp ga gia gwa : Nat) (ka : KPt) (gb gib gwb : Nat) (kb : KPt) (va : Value) (h : Mem w W (prM (⟨gp, ga, gia, gwa, ka, gb, gib, gwb, kb, va⟩ : KPl) (⟨c1, y.b, y.p⟩ : KPr) [])) (hok : KPl.ok (⟨gp, ga, gia, gwa, ka, gb, gib, gwb, kb, va⟩ : KPl) (⟨c1, y.b, y.p⟩ : KPr)) => cl_p0 gp ga gia gwa ka gb gib gwb kb va ⟨c1, y.b, y.p⟩ [] ci1 ht1 h hok
 try dsimp only at HCL
 rw [ce] at HCL
 replace HCL := Lib.hid HCL
 obtain ⟨d2, hd2⟩ : ∃ z, z = (cClose c1).1 := ⟨_, rfl⟩
 rw [← hd2] at s3 HCL
 have HS3 := fun (W : World) (gp ga gia gwa : Nat) (ka : KPt) (gb gib gwb : Nat) (kb : KPt) (va : Value) (h : Mem w W (prM (⟨gp, ga, gia, gwa, ka, gb, gib, gwb, kb, va⟩ : KPl) (⟨d2, y.b, y.p⟩ : KPr) [])) (hok : KPl.ok (⟨gp, ga, gia, gwa, ka, gb, gib, gwb, kb, va⟩ : KPl) (⟨d2, y.b, y.p⟩ : KPr)) => sends_p gp ga gia gwa ka gb gib gwb kb va ⟨d2, y.b, y.p⟩ x3 [] s3 h hok
 try dsimp only at HS3
 replace HS3 := Lib.hid HS3
 have HQ4 := fun (W : World) (gp ga gia gwa : Nat) (ka : KPt) (gb gib gwb : Nat) (kb : KPt) (va : Value) (h : Mem w W (prM (⟨gp, ga, gia, gwa, ka, gb, gib, gwb, kb, va⟩ : KPl) x3 [])) (hok : KPl.ok (⟨gp, ga, gia, gwa, ka, gb, gib, gwb, kb, va⟩ : KPl) x3) => quiet_p gp ga gia gwa ka gb gib gwb kb va x3 x4 [] k4 hk4 q4 h hok
 try dsimp only at HQ4
 replace HQ4 := Lib.hid HQ4
 have HWR2 := fun (W : World) (gp ga gia gwa : Nat) (ka : KPt) (gb gib gwb : Nat) (kb : KPt) (va : Value) (h : Mem w W (prM (⟨gp, ga, gia, gwa, ka, gb, gib, gwb, kb, va⟩ : KPl) x4 [])) (hok : KPl.ok (⟨gp, ga, gia, gwa, ka, gb, gib, gwb, kb, va⟩ : KPl) x4) => wr_p1 gp ga gia gwa ka gb gib gwb kb va x4 [] ci4 ht4 T (by omega) h hok
 try dsimp only at HWR2
 rw [wn2, we2] at HWR2
 replace HWR2 := Lib.hid HWR2
 obtain ⟨b5, hb5⟩ : ∃ z, z = (cWrite x4.b T).1 := ⟨_, rfl⟩
 rw [← hb5] at s6 HWR2
 have HS6 := fun (W : World) (gp ga gia gwa : Nat) (ka : KPt) (gb gib gwb : Nat) (kb : KPt) (va : Value) (h : Mem w W (prM (⟨gp, ga, gia, gwa, ka, gb, gib, gwb, kb, va⟩ : KPl) (⟨x4.a, b5, x4.p⟩ : KPr) [])) (hok : KPl.ok (⟨gp, ga, gia, gwa, ka, gb, gib, gwb, kb, va⟩ : KPl) (⟨x4.a, b5, x4.p⟩ : KPr)) => sends_p gp ga gia gwa ka gb gib gwb kb va ⟨x4.a, b5, x4.p⟩ x6 [] s6 h hok
 try dsimp only at HS6
 replace HS6 := Lib.hid HS6
 have HQ7 := fun (W : World) (gp ga gia gwa : Nat) (ka : KPt) (gb gib gwb : Nat) (kb : KPt) (va : Value) (h : Mem w W (prM (⟨gp, ga, gia, gwa, ka, gb, gib, gwb, kb, va⟩ : KPl) x6 [])) (hok : KPl.ok (⟨gp, ga, gia, gwa, ka, gb, gib, gwb, kb, va⟩ : KPl) x6) => quiet_p gp ga gia gwa ka gb gib gwb kb va x6 x7 [] k7 hk7 q7 h hok
 try dsimp only at HQ7
 replace HQ7 := Lib.hid HQ7
 have HRB := fun (W : World) (gp ga gia gwa : Nat) (ka : KPt) (gb gib gwb : Nat) (kb : KPt) (va : Value) (h : Mem w W (prM (⟨gp, ga, gia, gwa, ka, gb, gib, gwb, kb, va⟩ : KPl) x7 [])) (hok : KPl.ok (⟨gp, ga, gia, gwa, ka, gb, gib, gwb, kb, va⟩ : KPl) x7) => rd_p1 gp ga gia gwa ka gb gib gwb kb va x7 [] ci7 5000 (by decide) (by decide) h hok
 try dsimp only at HRB
 rw [rb] at HRB
 replace HRB := Lib.hid HRB
 obtain ⟨b8, hb8⟩ : ∃ z, z = (cRead x7.b 5000).1 := ⟨_, rfl⟩
 rw [← hb8] at st9b ci9 ce2 s11 HRB
 have HRA := fun (W : World) (gp ga gia gwa : Nat) (ka : KPt) (gb gib gwb : Nat) (kb : KPt) (va : Value) (h : Mem w W (prM (⟨gp, ga, gia, gwa, ka, gb, gib, gwb, kb, va⟩ : KPl) (⟨x7.a, b8, x7.p⟩ : KPr) [])) (hok : KPl.ok (⟨gp, ga, gia, gwa, ka, gb, gib, gwb, kb, va⟩ : KPl) (⟨x7.a, b8, x7.p⟩ : KPr)) => rd_p0 gp ga gia gwa ka gb gib gwb kb va ⟨x7.a, b8, x7.p⟩ [] ci7' 5000 (by decide) (by decide) h hok
 try dsimp only at HRA
 rw [ra] at HRA
 replace HRA := Lib.hid HRA
 obtain ⟨a9, ha9⟩ : ∃ z, z = (cRead x7.a 5000).1 := ⟨_, rfl⟩
 rw [← ha9] at st9a s11 HRA
 have HSA9 := fun (W : World) (gp ga gia gwa : Nat) (ka : KPt) (gb gib gwb : Nat) (kb : KPt) (va : Value) (h : Mem w W (prM (⟨gp, ga, gia, gwa, ka, gb, gib, gwb, kb, va⟩ : KPl) (⟨a9, b8, x7.p⟩ : KPr) [])) => st_p0 gp ga gia gwa ka gb gib gwb kb va ⟨a9, b8, x7.p⟩ [] h
 try dsimp only at HSA9
 rw [st9a] at HSA9
 replace HSA9 := Lib.hid HSA9
 have HSB9 := fun (W : World) (gp ga gia gwa : Nat) (ka : KPt) (gb gib gwb : Nat) (kb : KPt) (va : Value) (h : Mem w W (prM (⟨gp, ga, gia, gwa, ka, gb, gib, gwb, kb, va⟩ : KPl) (⟨a9, b8, x7.p⟩ : KPr) [])) => st_p1 gp ga gia gwa ka gb gib gwb kb va ⟨a9, b8, x7.p⟩ [] h
 try dsimp only at HSB9
 rw [st9b] at HSB9
 replace HSB9 := Lib.hid HSB9
 have HCL2 := fun (W : World) (gp ga gia gwa : Nat) (ka : KPt) (gb gib gwb : Nat) (kb : KPt) (va : Value) (h : Mem w W (prM (⟨gp, ga, gia, gwa, ka, gb, gib, gwb, kb, va⟩ : KPl) (⟨a9, b8, x7.p⟩ : KPr) [])) (hok : KPl.ok (⟨gp, ga, gia, gwa, ka, gb, gib, gwb, kb, va⟩ : KPl) (⟨a9, b8, x7.p⟩ : KPr)) => cl_p1 gp ga gia gwa ka gb gib gwb kb va ⟨a9, b8, x7.p⟩ [] ci9 ht9 h hok
 try dsimp only at HCL2
 rw [ce2] at HCL2
 replace HCL2 := Lib.hid HCL2
 obtain ⟨d10, hd10⟩ : ∃ z, z = (cClose b8).1 := ⟨_, rfl⟩
 rw [← hd10] at s11 HCL2
 have HS11 := fun (W : World) (gp ga gia gwa : Nat) (ka : KPt) (gb gib gwb : Nat) (kb : KPt) (va : Value) (h : Mem w W (prM (⟨gp, ga, gia, gwa, ka, gb, gib, gwb, kb, va⟩ : KPl) (⟨a9, d10, x7.p⟩ : KPr) [])) (hok : KPl.ok (⟨gp, ga, gia, gwa, ka, gb, gib, gwb, kb, va⟩ : KPl) (⟨a9, d10, x7.p⟩ : KPr)) => sends_p gp ga gia gwa ka gb gib gwb kb va ⟨a9, d10, x7.p⟩ x11 [] s11 h hok
 try dsimp only at HS11
 replace HS11 := Lib.hid HS11
 have HQ12 := fun (W : World) (gp ga gia gwa : Nat) (ka : KPt) (gb gib gwb : Nat) (kb : KPt) (va : Value) (h : Mem w W (prM (⟨gp, ga, gia, gwa, ka, gb, gib, gwb, kb, va⟩ : KPl) x11 [])) (hok : KPl.ok (⟨gp, ga, gia, gwa, ka, gb, gib, gwb, kb, va⟩ : KPl) x11) => quiet_p gp ga gia gwa ka gb gib gwb kb va x11 x12 [] k12 hk12 q12 h hok
 try dsimp only at HQ12
 replace HQ12 := Lib.hid HQ12
 have HSB12 := fun (W : World) (gp ga gia gwa : Nat) (ka : KPt) (gb gib gwb : Nat) (kb : KPt) (va : Value) (h : Mem w W (prM (⟨gp, ga, gia, gwa, ka, gb, gib, gwb, kb, va⟩ : KPl) x12 [])) => st_p1 gp ga gia gwa ka gb gib gwb kb va x12 [] h
 try dsimp only at HSB12
 rw [st12b] at HSB12
 replace HSB12 := Lib.hid HSB12
 have HSA12 := fun (W : World) (gp ga gia gwa : Nat) (ka : KPt) (gb gib gwb : Nat) (kb : KPt) (va : Value) (h : Mem w W (prM (⟨gp, ga, gia, gwa, ka, gb, gib, gwb, kb, va⟩ : KPl) x12 [])) => st_p0 gp ga gia gwa ka gb gib gwb kb va x12 [] h
 try dsimp only at HSA12
 rw [st12a] at HSA12
 replace HSA12 := Lib.hid HSA12
 have HTK := fun (W : World) (gp ga gia gwa : Nat) (ka : KPt) (gb gib gwb : Nat) (kb : KPt) (va : Value) (h : Mem w W (prM (⟨gp, ga, gia, gwa, ka, gb, gib, gwb, kb, va⟩ : KPl) x12 [])) (hok : KPl.ok (⟨gp, ga, gia, gwa, ka, gb, gib, gwb, kb, va⟩ : KPl) x12) => tk_p0 gp ga gia gwa ka gb gib gwb kb va x12 [] ci12 ht12 20 (by decide) (by omega) h hok
 try dsimp only at HTK
 replace HTK := Lib.hid HTK
 obtain ⟨a13, ha13⟩ : ∃ z, z = cTick x12.a 20 := ⟨_, rfl⟩
 rw [← ha13] at ts tw HTK
 have HSA13 := fun (W : World) (gp ga gia gwa : Nat) (ka : KPt) (gb gib gwb : Nat) (kb : KPt) (va : Value) (h : Mem w W (prM (⟨gp, ga, gia, gwa, ka, gb, gib, gwb, kb, va⟩ : KPl) (⟨a13, x12.b, x12.p⟩ : KPr) [])) => st_p0 gp ga gia gwa ka gb gib gwb kb va ⟨a13, x12.b, x12.p⟩ [] h
 try dsimp only at HSA13
 rw [ts] at HSA13
 replace HSA13 := Lib.hid HSA13
 have HYA13 := fun (W : World) (gp ga gia gwa : Nat) (ka : KPt) (gb gib gwb : Nat) (kb : KPt) (va : Value) (h : Mem w W (prM (⟨gp, ga, gia, gwa, ka, gb, gib, gwb, kb, va⟩ : KPl) (⟨a13, x12.b, x12.p⟩ : KPr) [])) => wy_p0 gp ga gia gwa ka gb gib gwb kb va ⟨a13, x12.b, x12.p⟩ [] h
 try dsimp only at HYA13
 rw [tw] at HYA13
 replace HYA13 := Lib.hid HYA13
 have HYB13 := fun (W : World) (gp ga gia gwa : Nat) (ka : KPt) (gb gib gwb : Nat) (kb : KPt) (va : Value) (h : Mem w W (prM (⟨gp, ga, gia, gwa, ka, gb, gib, gwb, kb, va⟩ : KPl) (⟨a13, x12.b, x12.p⟩ : KPr) [])) => wy_p1 gp ga gia gwa ka gb gib gwb kb va ⟨a13, x12.b, x12.p⟩ [] h
 try dsimp only at HYB13
 rw [wy12b] at HYB13
 replace HYB13 := Lib.hid HYB13
 have HTZ := Lib.hid hTz
 have HHE := Lib.hid (show H.toList.isEmpty = decide (H.size = 0) from by
  by_cases h0 : H.size = 0
  ·rw [str_none h0, decide_eq_true h0]
  ·rw [str_some (by omega), decide_eq_false h0])
 clear hme hT hH hTz hHz hP hya hyb hyair hcy wn we ht1 ci1 ce s3 hk4 q4 ht4 ci4 wn2 we2 s6 hk7 q7 ht7 ci7 rb ht7' ci7' ra st9a st9b ht9 ci9 ce2 s11 hk12 q12 st12b wy12b st12a ht12 ci12 n12 ts tw hc1 hd2 hb5 hb8 ha9 hd10 ha13
 obtain ⟨dH, hdH⟩ : ∃ z, z = decide (H.size = 0) := ⟨_, rfl⟩
 rw [← hdH] at HHE HRB
 clear hdH
 go_enter Try.func12, Try.ntmps12
 go_upto_region 2 with (first | go_skip | (go_at_call 22; refine (HME.out _).mono ?_; clear hM; rintro e W ⟨gp, ga, gia, gwa, ka, gb, gib, gwb, kb, va, rfl, hM, hok⟩; have HOK := Lib.hid hok; clear hok; dsimp only) | (go_at_call 22; refine (HME.out _).mono ?_; rintro e W ⟨gp, ga, gia, gwa, ka, gb, gib, gwb, kb, va, rfl, hM, hok⟩; have HOK := Lib.hid hok; clear hok; dsimp only))
 go_upto_region 4 with (fail)
 refine wp_region_M [] [] hM (by kernel_rfl) ?_
 clear hM
 intro wo hM
 refine tW 0 rfl ?_
 simp only [zz]
 refine tW 1 rfl ?_
 simp only [zz]
 refine tW 2 rfl ?_
 simp only [zz]
 refine tL 3 (v := .int .i64 nn) rfl trivial (Or.inl ⟨by rfl, ?hy⟩) ?_
 case hy => (intro W _; (go_simp; rw [← HNN.out]))
 simp only [zz]
 refine tL 4 (v := .string H) rfl trivial (Or.inl ⟨by rfl, ?hy⟩) ?_
 case hy => (intro W _; (go_simp; rw [if_pos HN1.out, ← HH.out]))
 simp only [zz]
 refine tW 5 rfl ?_
 simp only [zz]
 refine tW 6 rfl ?_
 simp only [zz]
 refine tW 7 rfl ?_
 simp only [zz]
 refine tL 8 (v := .int .i64 mm) rfl trivial (Or.inl ⟨by rfl, ?hy⟩) ?_
 case hy => (intro W _; (go_simp; rw [← HMM.out]))
 simp only [zz]
 refine tL 9 (v := .string T) rfl trivial (Or.inl ⟨by rfl, ?hy⟩) ?_
 case hy => (intro W _; (go_simp; rw [if_pos HN2.out, ← HT.out]))
 simp only [zz]
 refine tW 10 rfl ?_
 simp only [zz]
 refine tW 11 rfl ?_
 simp only [zz]
 refine wpI_done (by kernel_rfl) ?_ _
 (try simp only [zz])
 clear HME
 go_upto_region 8 with (first | go_skip | ((with_reducible refine at_load_ ?_); refine at_wanted_ (by rfl) ?_; first | (refine lM 0 hM rfl rfl rfl rfl ?_)) | (go_at_call 23; first | ((with_reducible refine (HWR.out _ _ _ _ _ _ _ _ _ _ _ hM HOK.out).mono ?_); clear hM HOK; rintro e W ⟨k1, rfl, hM, hok⟩; have HOK := Lib.hid hok; clear hok; dsimp only)) | (go_at_call 29; first | ((with_reducible refine (HCL.out _ _ _ _ _ _ _ _ _ _ _ hM HOK.out).mono ?_); clear hM HOK; rintro e W ⟨k2, rfl, hM, hok⟩; have HOK := Lib.hid hok; clear hok; dsimp only)) | (go_at_call 21; first | ((with_reducible refine (HS3.out _ _ _ _ _ _ _ _ _ _ _ hM HOK.out).mono ?_); clear hM HOK; rintro e W ⟨rfl, ka3, kb3, va3, hM, hok⟩; have HOK := Lib.hid hok; clear hok; dsimp only)) | (go_at_call 24; first | ((with_reducible refine (HQ4.out _ _ _ _ _ _ _ _ _ _ _ hM HOK.out).mono ?_); clear hM HOK; rintro e W ⟨rfl, gia4, gwa4, ka4, gib4, gwb4, kb4, va4, hM, hok⟩; have HOK := Lib.hid hok; clear hok; dsimp only)))
 clear HWR HCL HS3 HQ4
 go_upto_region 11 with (first | go_skip | ((with_reducible refine at_load_ ?_); refine at_wanted_ (by rfl) ?_; first | (refine lM 0 hM rfl rfl rfl rfl ?_)) | (go_at_call 23; first | ((with_reducible refine (HWR2.out _ _ _ _ _ _ _ _ _ _ _ hM HOK.out).mono ?_); clear hM HOK; rintro e W ⟨k5, rfl, hM, hok⟩; have HOK := Lib.hid hok; clear hok; dsimp only)) | (go_at_call 21; first | ((with_reducible refine (HS6.out _ _ _ _ _ _ _ _ _ _ _ hM HOK.out).mono ?_); clear hM HOK; rintro e W ⟨rfl, ka6, kb6, va6, hM, hok⟩; have HOK := Lib.hid hok; clear hok; dsimp only)) | (go_at_call 24; first | ((with_reducible refine (HQ7.out _ _ _ _ _ _ _ _ _ _ _ hM HOK.out).mono ?_); clear hM HOK; rintro e W ⟨rfl, gia7, gwa7, ka7, gib7, gwb7, kb7, va7, hM, hok⟩; have HOK := Lib.hid hok; clear hok; dsimp only)))
 clear HWR2 HS6 HQ7
 go_upto_region 12 with (first | go_skip | ((with_reducible refine at_load_ ?_); refine at_wanted_ (by rfl) ?_; first | (refine lM 0 hM rfl rfl rfl rfl ?_)) | (go_at_call 26; first | ((with_reducible refine (HRB.out _ _ _ _ _ _ _ _ _ _ _ hM HOK.out).mono ?_); clear hM HOK; rintro e W ⟨rfl, hM, hok⟩; have HOK := Lib.hid hok; clear hok; dsimp only)))
 have tH := HHE.out
 have tH2 : (!H.toList.isEmpty) = !dH := by rw [tH]
 go_upto_region 14 with (fail)
 clear tH tH2 HRB
 by_cases h0 : T.size = 0
 case' pos =>
  have tT : (!T.toList.isEmpty) = false := str_none' h0
  have tT2 : T.toList.isEmpty = true := str_none h0
  rw [if_pos h0] at HRA
 case' neg =>
  have tT : (!T.toList.isEmpty) = true := str_some' (by omega)
  have tT2 : T.toList.isEmpty = false := str_some (by omega)
  rw [if_neg h0] at HRA
 all_goals
  clear h0
  go_upto_region 15 with (first | go_skip | ((with_reducible refine at_load_ ?_); refine at_wanted_ (by rfl) ?_; first | (refine lM 0 hM rfl rfl rfl rfl ?_)) | (go_at_call 26; first | ((with_reducible refine (HRA.out _ _ _ _ _ _ _ _ _ _ _ hM HOK.out).mono ?_); clear hM HOK; rintro e W ⟨rfl, hM, hok⟩; have HOK := Lib.hid hok; clear hok; dsimp only)))
  clear HRA
  go_upto_region 17 with (fail)
  go_upto_region 19 with (first | go_skip | ((with_reducible refine at_load_ ?_); refine at_wanted_ (by rfl) ?_; first | (refine lM 0 hM rfl rfl rfl rfl ?_)) | (go_at_call 16; first | ((with_reducible refine (HSA9.out _ _ _ _ _ _ _ _ _ _ _ hM).mono ?_); rintro e W ⟨rfl, rfl⟩; dsimp only) | ((with_reducible refine (HSB9.out _ _ _ _ _ _ _ _ _ _ _ hM).mono ?_); rintro e W ⟨rfl, rfl⟩; dsimp only)))
  clear HSA9 HSB9
  go_upto_region 21 with (first | go_skip | ((with_reducible refine at_load_ ?_); refine at_wanted_ (by rfl) ?_; first | (refine lM 0 hM rfl rfl rfl rfl ?_)) | (go_at_call 29; first | ((with_reducible refine (HCL2.out _ _ _ _ _ _ _ _ _ _ _ hM HOK.out).mono ?_); clear hM HOK; rintro e W ⟨k10, rfl, hM, hok⟩; have HOK := Lib.hid hok; clear hok; dsimp only)) | (go_at_call 21; first | ((with_reducible refine (HS11.out _ _ _ _ _ _ _ _ _ _ _ hM HOK.out).mono ?_); clear hM HOK; rintro e W ⟨rfl, ka11, kb11, va11, hM, hok⟩; have HOK := Lib.hid hok; clear hok; dsimp only)) | (go_at_call 24; first | ((with_reducible refine (HQ12.out _ _ _ _ _ _ _ _ _ _ _ hM HOK.out).mono ?_); clear hM HOK; rintro e W ⟨rfl, gia12, gwa12, ka12, gib12, gwb12, kb12, va12, hM, hok⟩; have HOK := Lib.hid hok; clear hok; dsimp only)) | (go_at_call 16; first | ((with_reducible refine (HSB12.out _ _ _ _ _ _ _ _ _ _ _ hM).mono ?_); rintro e W ⟨rfl, rfl⟩; dsimp only) | ((with_reducible refine (HSA12.out _ _ _ _ _ _ _ _ _ _ _ hM).mono ?_); rintro e W ⟨rfl, rfl⟩; dsimp only)))
  clear HCL2 HS11 HQ12 HSB12 HSA12
  go_wp2_with (first | go_skip | ((with_reducible refine at_load_ ?_); refine at_wanted_ (by rfl) ?_; first | (refine lM 0 hM rfl rfl rfl rfl ?_)) | (go_at_call 18; first | ((with_reducible refine (HTK.out _ _ _ _ _ _ _ _ _ _ _ hM HOK.out).mono ?_); clear hM HOK; rintro e W ⟨rfl, hM, hok⟩; have HOK := Lib.hid hok; clear hok; dsimp only)) | (go_at_call 16; first | ((with_reducible refine (HSA13.out _ _ _ _ _ _ _ _ _ _ _ hM).mono ?_); rintro e W ⟨rfl, rfl⟩; dsimp only)) | (go_at_call 17; first | ((with_reducible refine (HYA13.out _ _ _ _ _ _ _ _ _ _ _ hM).mono ?_); rintro e W ⟨rfl, rfl⟩; dsimp only) | ((with_reducible refine (HYB13.out _ _ _ _ _ _ _ _ _ _ _ hM).mono ?_); rintro e W ⟨rfl, rfl⟩; dsimp only)))
  refine bodyPost_ret (v := .bool true) (by simp [results, Try.results12, go_sem]) rfl ?_
  exact ⟨rfl, hM.b⟩
end Go.Proofs.Ytfpifahkpkjfgaa
