/- What ConnBreaks needs, a part: WConnBreaks. -/
import Derived.Deep.CutBlock
import Derived.Test.YtfpifahkpkjfgaaMZ
import Derived.Test.YtfpifahkpkjfgaaMConnBreaks43
/- conn: the walk of ConnBreaks. Written by my gencn.py. -/
namespace Go.Proofs.Ytfpifahkpkjfgaa
open Go.RowKit Go.Lib
set_option linter.unusedVariables false
set_option linter.unusedSimpArgs false
set_option maxHeartbeats 16000000 in
set_option maxRecDepth 100000 in
theorem w_ConnBreaks (a0 : Int) (a1 : Int) (a2 : Int) (a3 : Int) (s4 : ByteArray) (w : World) (ha0 : 0 ≤ a0) (ha0' : a0 ≤ 4294967295) (ha1 : 0 ≤ a1) (ha1' : a1 ≤ 4294967295) (ha2 : -9223372036854775808 ≤ a2) (ha2' : a2 ≤ 9223372036854775807) (ha3 : -9223372036854775808 ≤ a3) (ha3' : a3 ≤ 9223372036854775807) (hs4 : s4.size ≤ 140737488351232) :
  Calls Try.prog 6 #[.int .u32 a0, .int .u32 a1, .int .i64 a2, .int .i64 a3, .string s4] w fun e w' => e = .returned (.bool true) ∧ Below w.heap.size w w' := by
 obtain ⟨y, hP, hya, hyb, hyair, hme⟩ := meet_any a0 a1 a2 a3 ha0 ha0' ha1 ha1' ha2 ha2' ha3 ha3'
 have HME := Lib.hid hme
 obtain ⟨nn, hnn⟩ : ∃ z : Int, z = (if (500 : Int) < (s4.size : Int) then 500 else (s4.size : Int)) := ⟨_, rfl⟩
 obtain ⟨T, hT⟩ : ∃ z, z = s4.extract 0 nn.toNat := ⟨_, rfl⟩
 have hTz : T.size ≤ 500 := by
  have : nn ≤ 500 := by rw [hnn]; split <;> omega
  rw [hT, ByteArray.size_extract]; omega
 have HNN := Lib.hid hnn
 clear hnn
 have hall := breaks_all ⟨ha0, ha0'⟩ ⟨ha1, ha1'⟩ (by omega) (by omega) T hTz hP hya hyb hyair
 obtain ⟨hw, x4, x5, x7, x8, k, so4, hk, q5, ⟨t5, ht5, c5⟩, hab, so7, q8, st8, why8, whya, ⟨t8, ht8, c8⟩, r1, r2, r3⟩ := hall
 have HT := Lib.hid hT
 have HTZ := Lib.hid hTz
 have hcy := hP.ciA
 have HWR := Lib.hid (fun (W : World) (gp ga gia gwa : Nat) (ka : KPt) (gb gib gwb : Nat) (kb : KPt) (va : Value) (h : Mem w W (prM (⟨gp, ga, gia, gwa, ka, gb, gib, gwb, kb, va⟩ : KPl) y [])) hok => wr_p0 gp ga gia gwa ka gb gib gwb kb va y [] hcy (by decide) T (by omega) h hok)
 have HS4 := Lib.hid (fun (W : World) (gp ga gia gwa : Nat) (ka : KPt) (gb gib gwb : Nat) (kb : KPt) (va : Value) (h : Mem w W (prM (⟨gp, ga, gia, gwa, ka, gb, gib, gwb, kb, va⟩ : KPl) ⟨(cWrite y.a T).1, y.b, y.p⟩ [])) hok => sends_p gp ga gia gwa ka gb gib gwb kb va _ x4 [] so4 h hok)
 have HQ5 := Lib.hid (fun (W : World) (gp ga gia gwa : Nat) (ka : KPt) (gb gib gwb : Nat) (kb : KPt) (va : Value) (h : Mem w W (prM (⟨gp, ga, gia, gwa, ka, gb, gib, gwb, kb, va⟩ : KPl) x4 [])) hok => quiet_p gp ga gia gwa ka gb gib gwb kb va _ x5 [] k hk q5 h hok)
 have HAB := Lib.hid (fun (W : World) (gp ga gia gwa : Nat) (ka : KPt) (gb gib gwb : Nat) (kb : KPt) (va : Value) (h : Mem w W (prM (⟨gp, ga, gia, gwa, ka, gb, gib, gwb, kb, va⟩ : KPl) x5 [])) hok => (by
  have h2 := ab_p0 gp ga gia gwa ka gb gib gwb kb va x5 [] c5 ht5 h hok
  rw [hab] at h2
  exact h2 : Calls Try.prog 25 #[.pointer (some ⟨ga, 0, none⟩)] W fun e W' => ∃ k', e = .returned (.int .i64 0) ∧ Mem w W' (prM (⟨gp, ga, gia, gwa, k', gb, gib, gwb, kb, va⟩ : KPl) ⟨(cAbort x5.a).1, x5.b, x5.p⟩ []) ∧ KPl.ok (⟨gp, ga, gia, gwa, k', gb, gib, gwb, kb, va⟩ : KPl) ⟨(cAbort x5.a).1, x5.b, x5.p⟩))
 have HS7 := Lib.hid (fun (W : World) (gp ga gia gwa : Nat) (ka : KPt) (gb gib gwb : Nat) (kb : KPt) (va : Value) (h : Mem w W (prM (⟨gp, ga, gia, gwa, ka, gb, gib, gwb, kb, va⟩ : KPl) ⟨(cAbort x5.a).1, x5.b, x5.p⟩ [])) hok => sends_p gp ga gia gwa ka gb gib gwb kb va _ x7 [] so7 h hok)
 have HQ8 := Lib.hid (fun (W : World) (gp ga gia gwa : Nat) (ka : KPt) (gb gib gwb : Nat) (kb : KPt) (va : Value) (h : Mem w W (prM (⟨gp, ga, gia, gwa, ka, gb, gib, gwb, kb, va⟩ : KPl) ⟨x7.a, x7.b, { x7.p with br := true }⟩ [])) hok => quiet_p gp ga gia gwa ka gb gib gwb kb va _ x8 [] 1 (by decide) q8 h hok)
 have HSB := Lib.hid (fun (W : World) (gp ga gia gwa : Nat) (ka : KPt) (gb gib gwb : Nat) (kb : KPt) (va : Value) (h : Mem w W (prM (⟨gp, ga, gia, gwa, ka, gb, gib, gwb, kb, va⟩ : KPl) x8 [])) => (by have h2 := st_p1 gp ga gia gwa ka gb gib gwb kb va x8 [] h; rw [st8] at h2; exact h2 : Calls Try.prog 16 #[.pointer (some ⟨gb, 0, none⟩)] W fun e W' => e = .returned (.int .i64 0) ∧ W = W'))
 have HYB := Lib.hid (fun (W : World) (gp ga gia gwa : Nat) (ka : KPt) (gb gib gwb : Nat) (kb : KPt) (va : Value) (h : Mem w W (prM (⟨gp, ga, gia, gwa, ka, gb, gib, gwb, kb, va⟩ : KPl) x8 [])) => (by have h2 := wy_p1 gp ga gia gwa ka gb gib gwb kb va x8 [] h; rw [why8] at h2; exact h2 : Calls Try.prog 17 #[.pointer (some ⟨gb, 0, none⟩)] W fun e W' => e = .returned (.int .i64 12) ∧ W = W'))
 have HYA := Lib.hid (fun (W : World) (gp ga gia gwa : Nat) (ka : KPt) (gb gib gwb : Nat) (kb : KPt) (va : Value) (h : Mem w W (prM (⟨gp, ga, gia, gwa, ka, gb, gib, gwb, kb, va⟩ : KPl) x8 [])) => (by have h2 := wy_p0 gp ga gia gwa ka gb gib gwb kb va x8 [] h; rw [whya] at h2; exact h2 : Calls Try.prog 17 #[.pointer (some ⟨ga, 0, none⟩)] W fun e W' => e = .returned (.int .i64 17) ∧ W = W'))
 have HR9 := Lib.hid (And.intro c8 (And.intro ht8 (And.intro r1 (And.intro r2 r3))))
 clear hme hT hTz hP hya hyb hyair hw so4 hk q5 c5 ht5 hab so7 q8 st8 why8 whya c8 ht8 r1 r2 r3 hcy
 obtain ⟨x3, hx3⟩ : ∃ z : KPr, z = ⟨(cWrite y.a T).1, y.b, y.p⟩ := ⟨_, rfl⟩
 obtain ⟨x6, hx6⟩ : ∃ z : KPr, z = ⟨(cAbort x5.a).1, x5.b, x5.p⟩ := ⟨_, rfl⟩
 go_enter Try.func6, Try.ntmps6
 go_upto_region 2 with (first | go_skip | (go_at_call 22; refine (HME.out _).mono ?_; clear hM; rintro e W ⟨gp, ga, gia, gwa, ka, gb, gib, gwb, kb, va, rfl, hM, hok⟩; have HOK := Lib.hid hok; clear hok; dsimp only) | (go_at_call 22; refine (HME.out _).mono ?_; rintro e W ⟨gp, ga, gia, gwa, ka, gb, gib, gwb, kb, va, rfl, hM, hok⟩; have HOK := Lib.hid hok; clear hok; dsimp only))
 go_upto_region 5 with (fail)
 rw [← HNN.out, ← HT.out]
 clear HME
 go_upto_region 8 with (first | go_skip | ((with_reducible refine at_load_ ?_); refine at_wanted_ (by rfl) ?_; first | (refine lM 0 hM rfl rfl rfl rfl ?_)) | (go_at_call 23; refine (HWR.out _ _ _ _ _ _ _ _ _ _ _ hM HOK.out).mono ?_; clear hM HOK; rintro e W ⟨ka3, rfl, hM, hok⟩; have HOK := Lib.hid hok; clear hok; dsimp only) | (go_at_call 24; refine (HQ5.out _ _ _ _ _ _ _ _ _ _ _ hM HOK.out).mono ?_; clear hM HOK; rintro e W ⟨rfl, gia5, gwa5, ka5, gib5, gwb5, kb5, va5, hM, hok⟩; have HOK := Lib.hid hok; clear hok; dsimp only) | (go_at_call 25; refine (HAB.out _ _ _ _ _ _ _ _ _ _ _ hM HOK.out).mono ?_; clear hM HOK; rintro e W ⟨ka6, rfl, hM, hok⟩; have HOK := Lib.hid hok; clear hok; dsimp only) | (go_at_call 21; first | ((with_reducible refine (HS4.out _ _ _ _ _ _ _ _ _ _ _ hM HOK.out).mono ?_); clear hM HOK; rintro e W ⟨rfl, ka4, kb4, va4, hM, hok⟩; have HOK := Lib.hid hok; clear hok; dsimp only) | ((with_reducible refine (HS7.out _ _ _ _ _ _ _ _ _ _ _ hM HOK.out).mono ?_); clear hM HOK; rintro e W ⟨rfl, ka7, kb7, va7, hM, hok⟩; have HOK := Lib.hid hok; clear hok; dsimp only)))
 replace hM := (show Mem w W (prR gp ga gb va7 x7.p :: arR va7 x7.p.air :: (cnH ga gia5 gwa5 x7.a ka7 ++ (cnH gb gib5 gwb5 x7.b kb7 ++ []))) from hM)
 go_upto_region 9 with (first | go_skip | ((with_reducible refine at_store_ ?_); refine sM 0 hM rfl rfl rfl ?_; clear hM; intro W hM; simp only [zF, zE, prR, pr6, pr7, pr8, pr9, pr10, pr11, pr12, pr13, pr14, pr15, pr16, pr17, pr18, pr19] at hM))
 replace hM := (show Mem w W (prM (⟨gp, ga, gia5, gwa5, ka7, gb, gib5, gwb5, kb7, va7⟩ : KPl) (⟨x7.a, x7.b, { x7.p with br := true }⟩ : KPr) []) from hM)
 replace HOK := Lib.hid (show KPl.ok (⟨gp, ga, gia5, gwa5, ka7, gb, gib5, gwb5, kb7, va7⟩ : KPl) (⟨x7.a, x7.b, { x7.p with br := true }⟩ : KPr) from HOK.out)
 go_upto_region 11 with (first | go_skip | ((with_reducible refine at_load_ ?_); refine at_wanted_ (by rfl) ?_; first | (refine lM 0 hM rfl rfl rfl rfl ?_)) | (go_at_call 24; refine (HQ8.out _ _ _ _ _ _ _ _ _ _ _ hM HOK.out).mono ?_; clear hM HOK; rintro e W ⟨rfl, gia8, gwa8, ka8, gib8, gwb8, kb8, va8, hM, hok⟩; have HOK := Lib.hid hok; clear hok; dsimp only) | (go_at_call 16; refine (HSB.out _ _ _ _ _ _ _ _ _ _ _ hM).mono ?_; rintro e W ⟨rfl, rfl⟩; dsimp only) | (go_at_call 17; first | ((with_reducible refine (HYB.out _ _ _ _ _ _ _ _ _ _ _ hM).mono ?_); rintro e W ⟨rfl, rfl⟩; dsimp only) | ((with_reducible refine (HYA.out _ _ _ _ _ _ _ _ _ _ _ hM).mono ?_); rintro e W ⟨rfl, rfl⟩; dsimp only)))
 obtain ⟨c8, ht8, r1, r2, r3⟩ := HR9.out
 clear HQ8 HSB HYB HYA HS7 HAB HQ5 HS4 HWR HR9
 obtain ⟨xa, xb, xp⟩ := x8
 dsimp only at c8 r1 r2 r3 hM HOK
 by_cases h0 : T.size = 0
 ·have tT : (!T.toList.isEmpty) = false := str_none' h0
  have tT2 : T.toList.isEmpty = true := str_none h0
  obtain ⟨r4, r5⟩ := r3 h0
  have c9 := c8.read 9
  have HRB := Lib.hid (fun (W : World) (gp ga gia gwa : Nat) (ka : KPt) (gb gib gwb : Nat) (kb : KPt) (va : Value) (h : Mem w W (prM (⟨gp, ga, gia, gwa, ka, gb, gib, gwb, kb, va⟩ : KPl) (⟨xa, xb, xp⟩ : KPr) [])) hok => rd_p1 gp ga gia gwa ka gb gib gwb kb va ⟨xa, xb, xp⟩ [] c8 9 (by decide) (by decide) h hok)
  obtain ⟨d9, hd9⟩ : ∃ z, z = (cRead xb 9).1 := ⟨_, rfl⟩
  obtain ⟨v9, hv9⟩ : ∃ z, z = (cRead xb 9).2.1 := ⟨_, rfl⟩
  obtain ⟨o9, ho9⟩ : ∃ z, z = (cRead xb 9).2.2.1 := ⟨_, rfl⟩
  dsimp only at HRB
  rw [← hd9, ← hv9, ← ho9, r4] at HRB
  rw [← hd9] at r5 c9
  have HWX := Lib.hid (fun (W : World) (gp ga gia gwa : Nat) (ka : KPt) (gb gib gwb : Nat) (kb : KPt) (va : Value) (h : Mem w W (prM (⟨gp, ga, gia, gwa, ka, gb, gib, gwb, kb, va⟩ : KPl) (⟨xa, d9, xp⟩ : KPr) [])) hok => wr_p1 gp ga gia gwa ka gb gib gwb kb va ⟨xa, d9, xp⟩ [] c9 (by omega) ⟨#[120]⟩ (by decide) h hok)
  dsimp only at HWX
  rw [r5] at HWX
  clear hd9 hv9 ho9 r1 r2 r3 r4 r5 c8 c9 ht8
  go_upto_region 17 with (first | go_skip | ((with_reducible refine at_load_ ?_); refine at_wanted_ (by rfl) ?_; first | (refine lM 0 hM rfl rfl rfl rfl ?_)) | (go_at_call 26; refine (HRB.out _ _ _ _ _ _ _ _ _ _ _ hM HOK.out).mono ?_; clear hM HOK; rintro e W ⟨rfl, hM, hok⟩; have HOK := Lib.hid hok; clear hok; dsimp only) | (go_at_call 23; refine (HWX.out _ _ _ _ _ _ _ _ _ _ _ hM HOK.out).mono ?_; clear hM HOK; rintro e W ⟨kx, rfl, hM, -⟩; dsimp only))
  (go_wp2_with fail)
  refine bodyPost_ret (v := .bool true) (by simp [results, Try.results6, go_sem]) rfl ?_
  exact ⟨rfl, hM.b⟩
 ·have tT : (!T.toList.isEmpty) = true := str_some' (by omega)
  have tT2 : T.toList.isEmpty = false := str_some (by omega)
  rw [if_neg h0] at r1
  obtain ⟨r4, r5, r6⟩ := r2 h0
  have c9 := c8.read 999
  have c10 := c9.read 9
  have HRA := Lib.hid (fun (W : World) (gp ga gia gwa : Nat) (ka : KPt) (gb gib gwb : Nat) (kb : KPt) (va : Value) (h : Mem w W (prM (⟨gp, ga, gia, gwa, ka, gb, gib, gwb, kb, va⟩ : KPl) (⟨xa, xb, xp⟩ : KPr) [])) hok => rd_p1 gp ga gia gwa ka gb gib gwb kb va ⟨xa, xb, xp⟩ [] c8 999 (by decide) (by decide) h hok)
  obtain ⟨d9, hd9⟩ : ∃ z, z = (cRead xb 999).1 := ⟨_, rfl⟩
  obtain ⟨o8, ho8⟩ : ∃ z, z = (cRead xb 999).2.2.1 := ⟨_, rfl⟩
  dsimp only at HRA
  rw [← hd9, ← ho8, r1, r4] at HRA
  rw [← hd9] at r5 r6 c9 c10
  have HRB := Lib.hid (fun (W : World) (gp ga gia gwa : Nat) (ka : KPt) (gb gib gwb : Nat) (kb : KPt) (va : Value) (h : Mem w W (prM (⟨gp, ga, gia, gwa, ka, gb, gib, gwb, kb, va⟩ : KPl) (⟨xa, d9, xp⟩ : KPr) [])) hok => rd_p1 gp ga gia gwa ka gb gib gwb kb va ⟨xa, d9, xp⟩ [] c9 9 (by decide) (by decide) h hok)
  obtain ⟨d10, hd10⟩ : ∃ z, z = (cRead d9 9).1 := ⟨_, rfl⟩
  obtain ⟨v9, hv9⟩ : ∃ z, z = (cRead d9 9).2.1 := ⟨_, rfl⟩
  obtain ⟨o9, ho9⟩ : ∃ z, z = (cRead d9 9).2.2.1 := ⟨_, rfl⟩
  dsimp only at HRB
  rw [← hd10, ← hv9, ← ho9, r5] at HRB
  rw [← hd10] at r6 c10
  have HWX := Lib.hid (fun (W : World) (gp ga gia gwa : Nat) (ka : KPt) (gb gib gwb : Nat) (kb : KPt) (va : Value) (h : Mem w W (prM (⟨gp, ga, gia, gwa, ka, gb, gib, gwb, kb, va⟩ : KPl) (⟨xa, d10, xp⟩ : KPr) [])) hok => wr_p1 gp ga gia gwa ka gb gib gwb kb va ⟨xa, d10, xp⟩ [] c10 (by omega) ⟨#[120]⟩ (by decide) h hok)
  dsimp only at HWX
  rw [r6] at HWX
  clear hd9 ho8 hd10 hv9 ho9 r1 r2 r3 r4 r5 r6 c8 c9 c10 ht8
  go_upto_region 17 with (first | go_skip | ((with_reducible refine at_load_ ?_); refine at_wanted_ (by rfl) ?_; first | (refine lM 0 hM rfl rfl rfl rfl ?_)) | (go_at_call 26; first | ((with_reducible refine (HRA.out _ _ _ _ _ _ _ _ _ _ _ hM HOK.out).mono ?_); clear hM HOK; rintro e W ⟨rfl, hM, hok⟩; have HOK := Lib.hid hok; clear hok; dsimp only) | ((with_reducible refine (HRB.out _ _ _ _ _ _ _ _ _ _ _ hM HOK.out).mono ?_); clear hM HOK; rintro e W ⟨rfl, hM, hok⟩; have HOK := Lib.hid hok; clear hok; dsimp only)) | (go_at_call 23; refine (HWX.out _ _ _ _ _ _ _ _ _ _ _ hM HOK.out).mono ?_; clear hM HOK; rintro e W ⟨kx, rfl, hM, -⟩; dsimp only))
  (go_wp2_with fail)
  refine bodyPost_ret (v := .bool true) (by simp [results, Try.results6, go_sem]) rfl ?_
  exact ⟨rfl, hM.b⟩
end Go.Proofs.Ytfpifahkpkjfgaa
