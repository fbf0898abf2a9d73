/- What ConnMeets needs, a part: WConnMeets. -/
import Derived.Deep.CutBlock
import Derived.Test.YtfpifahkpkjfgaaMCnPc32
/- conn: the walk of ConnMeets. Written by my gencn.py. -/
namespace Go.Proofs.Ytfpifahkpkjfgaa
open Go.RowKit Go.Lib
set_option linter.unusedVariables false
set_option linter.unusedSimpArgs false


set_option maxRecDepth 100000 in
set_option maxHeartbeats 8000000 in
theorem w_ConnMeets (a0 : Int) (a1 : Int) (a2 : Int) (a3 : Int) (a4 : Int) (w : World) (ha0 : 0 ≤ a0) (ha0' : a0 ≤ 4294967295) (ha1 : 0 ≤ a1) (ha1' : a1 ≤ 4294967295) (ha2 : -9223372036854775808 ≤ a2) (ha2' : a2 ≤ 9223372036854775807) (ha3 : -9223372036854775808 ≤ a3) (ha3' : a3 ≤ 9223372036854775807) (ha4 : -9223372036854775808 ≤ a4) (ha4' : a4 ≤ 9223372036854775807) :
    Calls Try.prog 7 #[.int .u32 a0, .int .u32 a1, .int .i64 a2, .int .i64 a3, .int .i64 a4] w fun e w' => e = .returned (.bool true) ∧ Below w.heap.size w w' := by
  obtain ⟨iss, rfl⟩ : ∃ z, z = a0 := ⟨_, rfl⟩
  obtain ⟨irs, rfl⟩ : ∃ z, z = a1 := ⟨_, rfl⟩
  have HI := Lib.hid (show 0 ≤ iss ∧ iss ≤ 4294967295 from ⟨ha0, ha0'⟩)
  have HJ := Lib.hid (show 0 ≤ irs ∧ irs ≤ 4294967295 from ⟨ha1, ha1'⟩)
  have HPA := Lib.hid (fun W => paired_any iss irs a2 a3 W ha0 ha0' ha1 ha1' ha2 ha2' ha3 ha3')
  have HR := Lib.hid (fun W => Rest_any a4 1000 W ha4 ha4' (by decide) (by decide))
  obtain ⟨n4, hn4⟩ : ∃ z, z = a4 % 1000 := ⟨_, rfl⟩
  have HN := Lib.hid (show 0 ≤ n4 ∧ n4 ≤ 999 by omega)
  rw [← hn4] at HR
  obtain ⟨ma, hma⟩ : ∃ z, z = 8 + a2 % 993 := ⟨_, rfl⟩
  obtain ⟨mb, hmb⟩ : ∃ z, z = 8 + a3 % 993 := ⟨_, rfl⟩
  have hA : 8 ≤ ma ∧ ma ≤ 1000 := by omega
  have hB : 8 ≤ mb ∧ mb ≤ 1000 := by omega
  rw [← hma, ← hmb] at HPA
  clear hma hmb hn4 ha0 ha0' ha1 ha1' ha2 ha2' ha3 ha3' ha4 ha4'
  have t1 : (u32 (iss + 1) != (iss + 1) % 4294967296) = false := by simp [u32]
  have t2 : ((gSA 2 80 1 40000 irs iss mb).seq != irs) = false := by simp [gSA]
  have t3 : ((gSA 2 80 1 40000 irs iss mb).ack != (iss + 1) % 4294967296) = false := by simp [gSA, u32]
  have t4 : ((gAk 1 40000 2 80 iss irs).ack != (irs + 1) % 4294967296) = false := by simp [gAk, u32]
  have t5 : ((gAk 1 40000 2 80 iss irs).seq != (iss + 1) % 4294967296) = false := by simp [gAk, u32]
  have t6 : (!(gAk 1 40000 2 80 iss irs).b.toList.isEmpty) = false := str_none' rfl
  obtain ⟨g1ok, cia2, cia3, g2ok⟩ := ci_sa (la := 1) (lp := 40000) (ra := 2) (rp := 80) HI.out HJ.out hA hB (by decide) (by decide) (by decide) (by decide)
  obtain ⟨cib1, cib2⟩ := ci_b (la := 2) (lp := 80) (ra := 1) (rp := 40000) HJ.out HI.out hB hA (by decide) (by decide) (by decide) (by decide)
  have cib0 : CI (cTake 2 80 (gSyn 1 40000 2 80 iss ma) irs mb) 0 := ci_take (la := 2) (lp := 80) HJ.out hB (gSyn 1 40000 2 80 iss ma) (by decide : (0 : Int) ≤ 2048 ∧ (2048 : Int) ≤ 65535) HI.out
  have cia1 : CI (cA1 1 40000 2 80 iss ma) 0 := ci_a1 HI.out hA
  have hob : cOut (cTake 2 80 (gSyn 1 40000 2 80 iss ma) irs mb) = ((cB1 2 80 1 40000 irs iss mb (cMss mb ma)), [gSA 2 80 1 40000 irs iss mb]) := out_b (la := 2) (lp := 80) (ra := 1) (rp := 40000) HJ.out (cMss_in hB).1
  have HOB := Lib.hid (fun (W : World) (gp ga gb gia gwa gib gwb : Nat) (va : Value) (ka kb : KPt) (h : MemX noE w W (prR gp ga gb va pa0 :: arR va pa0.air :: (cnH ga gia gwa (cA1 1 40000 2 80 iss ma) ka ++ (cnH gb gib gwb (cTake 2 80 (gSyn 1 40000 2 80 iss ma) irs mb) kb ++ [])))) (hk : KOk kb gib gwb (cTake 2 80 (gSyn 1 40000 2 80 iss ma) irs mb).h) => (by
    have h2 := outF (prR gp ga gb va pa0 :: arR va pa0.air :: cnH ga gia gwa (cA1 1 40000 2 80 iss ma) ka) [] h hk cib0 (by decide)
    rw [hob] at h2
    exact h2 : Calls Try.prog 15 #[.pointer (some ⟨gb, 0, none⟩)] W fun e W' => ∃ v1 k', e = .returned v1 ∧ MemX noE w W' (rowR 13 cSeg v1 [gSA 2 80 1 40000 irs iss mb] :: prR gp ga gb va pa0 :: arR va pa0.air :: (cnH ga gia gwa (cA1 1 40000 2 80 iss ma) ka ++ (cnH gb gib gwb (cB1 2 80 1 40000 irs iss mb (cMss mb ma)) k' ++ []))) ∧ KOk k' gib gwb (cB1 2 80 1 40000 irs iss mb (cMss mb ma)).h))
  have hia : cIn (cA1 1 40000 2 80 iss ma) (gSA 2 80 1 40000 irs iss mb) = (cE 1 40000 2 80 iss irs ma (cMss ma mb) 0 0 0 true) := in_sa (by decide) (by decide) hA hB
  have HIA := Lib.hid (fun (W : World) (gp ga gb gia gwa gib gwb : Nat) (va v1 : Value) (ka kb : KPt) (h : MemX noE w W (rowR 13 cSeg v1 [gSA 2 80 1 40000 irs iss mb] :: prR gp ga gb va pa0 :: arR va pa0.air :: (cnH ga gia gwa (cA1 1 40000 2 80 iss ma) ka ++ (cnH gb gib gwb (cB1 2 80 1 40000 irs iss mb (cMss mb ma)) kb ++ [])))) (hk : KOk ka gia gwa (cA1 1 40000 2 80 iss ma).h) => (by
    have h2 := inF [rowR 13 cSeg v1 [gSA 2 80 1 40000 irs iss mb], prR gp ga gb va pa0, arR va pa0.air] (cnH gb gib gwb (cB1 2 80 1 40000 irs iss mb (cMss mb ma)) kb ++ []) h hk cia1 (by decide) (gSA 2 80 1 40000 irs iss mb) g1ok
    rw [hia] at h2
    exact h2 : Calls Try.prog 19 #[.pointer (some ⟨ga, 0, none⟩), .agg (cSeg (gSA 2 80 1 40000 irs iss mb)).toArray] W fun e W' => ∃ gi' gw' k', e = .returned (.int .i64 (cInE (cA1 1 40000 2 80 iss ma) (gSA 2 80 1 40000 irs iss mb))) ∧ MemX noE w W' (rowR 13 cSeg v1 [gSA 2 80 1 40000 irs iss mb] :: prR gp ga gb va pa0 :: arR va pa0.air :: (cnH ga gi' gw' (cE 1 40000 2 80 iss irs ma (cMss ma mb) 0 0 0 true) k' ++ (cnH gb gib gwb (cB1 2 80 1 40000 irs iss mb (cMss mb ma)) kb ++ []))) ∧ KOk k' gi' gw' (cE 1 40000 2 80 iss irs ma (cMss ma mb) 0 0 0 true).h))
  have hoa : cOut (cE 1 40000 2 80 iss irs ma (cMss ma mb) 0 0 0 true) = ((cE 1 40000 2 80 iss irs ma (cMss ma mb) 0 0 0 false), [gAk 1 40000 2 80 iss irs]) := out_e (cMss_in hA)
  have HOA := Lib.hid (fun (W : World) (gp ga gb gia gwa gib gwb : Nat) (va v1 : Value) (ka kb : KPt) (h : MemX noE w W (rowR 13 cSeg v1 [gSA 2 80 1 40000 irs iss mb] :: prR gp ga gb va pa0 :: arR va pa0.air :: (cnH ga gia gwa (cE 1 40000 2 80 iss irs ma (cMss ma mb) 0 0 0 true) ka ++ (cnH gb gib gwb (cB1 2 80 1 40000 irs iss mb (cMss mb ma)) kb ++ [])))) (hk : KOk ka gia gwa (cE 1 40000 2 80 iss irs ma (cMss ma mb) 0 0 0 true).h) => (by
    have h2 := outF [rowR 13 cSeg v1 [gSA 2 80 1 40000 irs iss mb], prR gp ga gb va pa0, arR va pa0.air] (cnH gb gib gwb (cB1 2 80 1 40000 irs iss mb (cMss mb ma)) kb ++ []) h hk cia2 (by decide)
    rw [hoa] at h2
    exact h2 : Calls Try.prog 15 #[.pointer (some ⟨ga, 0, none⟩)] W fun e W' => ∃ v2 k', e = .returned v2 ∧ MemX noE w W' (rowR 13 cSeg v2 [gAk 1 40000 2 80 iss irs] :: rowR 13 cSeg v1 [gSA 2 80 1 40000 irs iss mb] :: prR gp ga gb va pa0 :: arR va pa0.air :: (cnH ga gia gwa (cE 1 40000 2 80 iss irs ma (cMss ma mb) 0 0 0 false) k' ++ (cnH gb gib gwb (cB1 2 80 1 40000 irs iss mb (cMss mb ma)) kb ++ []))) ∧ KOk k' gia gwa (cE 1 40000 2 80 iss irs ma (cMss ma mb) 0 0 0 false).h))
  have hib : cIn (cB1 2 80 1 40000 irs iss mb (cMss mb ma)) (gAk 1 40000 2 80 iss irs) = (cE 2 80 1 40000 irs iss mb (cMss mb ma) 1 1 0 false) := in_ak (by decide) (by decide) (cMss_in hB)
  have HIB := Lib.hid (fun (W : World) (gp ga gb gia gwa gib gwb : Nat) (va v1 v2 : Value) (ka kb : KPt) (h : MemX noE w W (rowR 13 cSeg v2 [gAk 1 40000 2 80 iss irs] :: rowR 13 cSeg v1 [gSA 2 80 1 40000 irs iss mb] :: prR gp ga gb va pa0 :: arR va pa0.air :: (cnH ga gia gwa (cE 1 40000 2 80 iss irs ma (cMss ma mb) 0 0 0 false) ka ++ (cnH gb gib gwb (cB1 2 80 1 40000 irs iss mb (cMss mb ma)) kb ++ [])))) (hk : KOk kb gib gwb (cB1 2 80 1 40000 irs iss mb (cMss mb ma)).h) => (by
    have h2 := inF (rowR 13 cSeg v2 [gAk 1 40000 2 80 iss irs] :: rowR 13 cSeg v1 [gSA 2 80 1 40000 irs iss mb] :: prR gp ga gb va pa0 :: arR va pa0.air :: cnH ga gia gwa (cE 1 40000 2 80 iss irs ma (cMss ma mb) 0 0 0 false) ka) [] h hk cib1 (by decide) (gAk 1 40000 2 80 iss irs) g2ok
    rw [hib] at h2
    exact h2 : Calls Try.prog 19 #[.pointer (some ⟨gb, 0, none⟩), .agg (cSeg (gAk 1 40000 2 80 iss irs)).toArray] W fun e W' => ∃ gi' gw' k', e = .returned (.int .i64 (cInE (cB1 2 80 1 40000 irs iss mb (cMss mb ma)) (gAk 1 40000 2 80 iss irs))) ∧ MemX noE w W' (rowR 13 cSeg v2 [gAk 1 40000 2 80 iss irs] :: rowR 13 cSeg v1 [gSA 2 80 1 40000 irs iss mb] :: prR gp ga gb va pa0 :: arR va pa0.air :: (cnH ga gia gwa (cE 1 40000 2 80 iss irs ma (cMss ma mb) 0 0 0 false) ka ++ (cnH gb gi' gw' (cE 2 80 1 40000 irs iss mb (cMss mb ma) 1 1 0 false) k' ++ []))) ∧ KOk k' gi' gw' (cE 2 80 1 40000 irs iss mb (cMss mb ma) 1 1 0 false).h))
  have HTA := Lib.hid (fun (W : World) (gp ga gb gia gwa gib gwb : Nat) (va : Value) (ka kb : KPt) (h : MemX noE w W (prR gp ga gb va pa0 :: arR va pa0.air :: (cnH ga gia gwa (cE 1 40000 2 80 iss irs ma (cMss ma mb) 0 0 0 false) ka ++ (cnH gb gib gwb (cE 2 80 1 40000 irs iss mb (cMss mb ma) 1 1 0 false) kb ++ [])))) (hk : KOk ka gia gwa (cE 1 40000 2 80 iss irs ma (cMss ma mb) 0 0 0 false).h) => (by
    have h2 := tickF [prR gp ga gb va pa0, arR va pa0.air] (cnH gb gib gwb (cE 2 80 1 40000 irs iss mb (cMss mb ma) 1 1 0 false) kb ++ []) h hk cia3 (by decide) n4 HN.out.1 (by have := HN.out; show n4 ≤ 1099511627776 - 0; omega)
    rw [tick_e, Int.zero_add] at h2
    exact h2 : Calls Try.prog 18 #[.pointer (some ⟨ga, 0, none⟩), .int .i64 n4] W fun e W' => e = .returned (.int .i64 0) ∧ MemX noE w W' (prR gp ga gb va pa0 :: arR va pa0.air :: (cnH ga gia gwa (cE 1 40000 2 80 iss irs ma (cMss ma mb) 0 0 n4 false) ka ++ (cnH gb gib gwb (cE 2 80 1 40000 irs iss mb (cMss mb ma) 1 1 0 false) kb ++ []))) ∧ KOk ka gia gwa (cE 1 40000 2 80 iss irs ma (cMss ma mb) 0 0 n4 false).h))
  have HTB := Lib.hid (fun (W : World) (gp ga gb gia gwa gib gwb : Nat) (va : Value) (ka kb : KPt) (h : MemX noE w W (prR gp ga gb va pa0 :: arR va pa0.air :: (cnH ga gia gwa (cE 1 40000 2 80 iss irs ma (cMss ma mb) 0 0 n4 false) ka ++ (cnH gb gib gwb (cE 2 80 1 40000 irs iss mb (cMss mb ma) 1 1 0 false) kb ++ [])))) (hk : KOk kb gib gwb (cE 2 80 1 40000 irs iss mb (cMss mb ma) 1 1 0 false).h) => (by
    have h2 := tickF (prR gp ga gb va pa0 :: arR va pa0.air :: cnH ga gia gwa (cE 1 40000 2 80 iss irs ma (cMss ma mb) 0 0 n4 false) ka) [] h hk cib2 (by decide) n4 HN.out.1 (by have := HN.out; show n4 ≤ 1099511627776 - 0; omega)
    rw [tick_e, Int.zero_add] at h2
    exact h2 : Calls Try.prog 18 #[.pointer (some ⟨gb, 0, none⟩), .int .i64 n4] W fun e W' => e = .returned (.int .i64 0) ∧ MemX noE w W' (prR gp ga gb va pa0 :: arR va pa0.air :: (cnH ga gia gwa (cE 1 40000 2 80 iss irs ma (cMss ma mb) 0 0 n4 false) ka ++ (cnH gb gib gwb (cE 2 80 1 40000 irs iss mb (cMss mb ma) 1 1 n4 false) kb ++ []))) ∧ KOk kb gib gwb (cE 2 80 1 40000 irs iss mb (cMss mb ma) 1 1 n4 false).h))
  have ciat : CI (cE 1 40000 2 80 iss irs ma (cMss ma mb) 0 0 n4 false) 1 := by
    have h := (cia3.tick n4 HN.out.1 (by have := HN.out; show n4 ≤ 1099511627776 - 0; omega)).1
    rw [tick_e, Int.zero_add] at h
    exact h
  have cibt : CI (cE 2 80 1 40000 irs iss mb (cMss mb ma) 1 1 n4 false) 1 := by
    have h := (cib2.tick n4 HN.out.1 (by have := HN.out; show n4 ≤ 1099511627776 - 0; omega)).1
    rw [tick_e, Int.zero_add] at h
    exact h
  have HSA := Lib.hid (fun (W : World) (gp ga gb gia gwa gib gwb : Nat) (va : Value) (ka kb : KPt) (nb : Int) (h : MemX noE w W (prR gp ga gb va pa0 :: arR va pa0.air :: (cnH ga gia gwa (cE 1 40000 2 80 iss irs ma (cMss ma mb) 0 0 n4 false) ka ++ (cnH gb gib gwb (cE 2 80 1 40000 irs iss mb (cMss mb ma) 1 1 nb false) kb ++ [])))) => (stateF [prR gp ga gb va pa0, arR va pa0.air] (cnH gb gib gwb (cE 2 80 1 40000 irs iss mb (cMss mb ma) 1 1 nb false) kb ++ []) h : Calls Try.prog 16 #[.pointer (some ⟨ga, 0, none⟩)] W fun e W' => e = .returned (.int .i64 3) ∧ W = W'))
  have HSB := Lib.hid (fun (W : World) (gp ga gb gia gwa gib gwb : Nat) (va : Value) (ka kb : KPt) (h : MemX noE w W (prR gp ga gb va pa0 :: arR va pa0.air :: (cnH ga gia gwa (cE 1 40000 2 80 iss irs ma (cMss ma mb) 0 0 n4 false) ka ++ (cnH gb gib gwb (cE 2 80 1 40000 irs iss mb (cMss mb ma) 1 1 n4 false) kb ++ [])))) => (stateF (prR gp ga gb va pa0 :: arR va pa0.air :: cnH ga gia gwa (cE 1 40000 2 80 iss irs ma (cMss ma mb) 0 0 n4 false) ka) [] h : Calls Try.prog 16 #[.pointer (some ⟨gb, 0, none⟩)] W fun e W' => e = .returned (.int .i64 3) ∧ W = W'))
  have hoa2 : cOut (cE 1 40000 2 80 iss irs ma (cMss ma mb) 0 0 n4 false) = ((cE 1 40000 2 80 iss irs ma (cMss ma mb) 0 0 n4 false), []) := out_e (cMss_in hA)
  have hob2 : cOut (cE 2 80 1 40000 irs iss mb (cMss mb ma) 1 1 n4 false) = ((cE 2 80 1 40000 irs iss mb (cMss mb ma) 1 1 n4 false), []) := out_e (cMss_in hB)
  have HUA := Lib.hid (fun (W : World) (gp ga gb gia gwa gib gwb : Nat) (va : Value) (ka kb : KPt) (nb : Int) (h : MemX noE w W (prR gp ga gb va pa0 :: arR va pa0.air :: (cnH ga gia gwa (cE 1 40000 2 80 iss irs ma (cMss ma mb) 0 0 n4 false) ka ++ (cnH gb gib gwb (cE 2 80 1 40000 irs iss mb (cMss mb ma) 1 1 nb false) kb ++ [])))) (hk : KOk ka gia gwa (cE 1 40000 2 80 iss irs ma (cMss ma mb) 0 0 n4 false).h) => (by
    have h2 := outF [prR gp ga gb va pa0, arR va pa0.air] (cnH gb gib gwb (cE 2 80 1 40000 irs iss mb (cMss mb ma) 1 1 nb false) kb ++ []) h hk ciat (by decide)
    rw [hoa2] at h2
    exact h2 : Calls Try.prog 15 #[.pointer (some ⟨ga, 0, none⟩)] W fun e W' => ∃ v2 k', e = .returned v2 ∧ MemX noE w W' (rowR 13 cSeg v2 [] :: prR gp ga gb va pa0 :: arR va pa0.air :: (cnH ga gia gwa (cE 1 40000 2 80 iss irs ma (cMss ma mb) 0 0 n4 false) k' ++ (cnH gb gib gwb (cE 2 80 1 40000 irs iss mb (cMss mb ma) 1 1 nb false) kb ++ []))) ∧ KOk k' gia gwa (cE 1 40000 2 80 iss irs ma (cMss ma mb) 0 0 n4 false).h))
  have HUB := Lib.hid (fun (W : World) (gp ga gb gia gwa gib gwb : Nat) (va : Value) (ka kb : KPt) (h : MemX noE w W (prR gp ga gb va pa0 :: arR va pa0.air :: (cnH ga gia gwa (cE 1 40000 2 80 iss irs ma (cMss ma mb) 0 0 n4 false) ka ++ (cnH gb gib gwb (cE 2 80 1 40000 irs iss mb (cMss mb ma) 1 1 n4 false) kb ++ [])))) (hk : KOk kb gib gwb (cE 2 80 1 40000 irs iss mb (cMss mb ma) 1 1 n4 false).h) => (by
    have h2 := outF (prR gp ga gb va pa0 :: arR va pa0.air :: cnH ga gia gwa (cE 1 40000 2 80 iss irs ma (cMss ma mb) 0 0 n4 false) ka) [] h hk cibt (by decide)
    rw [hob2] at h2
    exact h2 : Calls Try.prog 15 #[.pointer (some ⟨gb, 0, none⟩)] W fun e W' => ∃ v2 k', e = .returned v2 ∧ MemX noE w W' (rowR 13 cSeg v2 [] :: prR gp ga gb va pa0 :: arR va pa0.air :: (cnH ga gia gwa (cE 1 40000 2 80 iss irs ma (cMss ma mb) 0 0 n4 false) ka ++ (cnH gb gib gwb (cE 2 80 1 40000 irs iss mb (cMss mb ma) 1 1 n4 false) k' ++ []))) ∧ KOk k' gib gwb (cE 2 80 1 40000 irs iss mb (cMss mb ma) 1 1 n4 false).h))
  have HYA := Lib.hid (fun (W : World) (gp ga gb gia gwa gib gwb : Nat) (va : Value) (ka kb : KPt) (nb : Int) (h : MemX noE w W (prR gp ga gb va pa0 :: arR va pa0.air :: (cnH ga gia gwa (cE 1 40000 2 80 iss irs ma (cMss ma mb) 0 0 n4 false) ka ++ (cnH gb gib gwb (cE 2 80 1 40000 irs iss mb (cMss mb ma) 1 1 nb false) kb ++ [])))) (hk : KOk ka gia gwa (cE 1 40000 2 80 iss irs ma (cMss ma mb) 0 0 n4 false).h) => (by
    have h2 := readyF [prR gp ga gb va pa0, arR va pa0.air] (cnH gb gib gwb (cE 2 80 1 40000 irs iss mb (cMss mb ma) 1 1 nb false) kb ++ []) newIQ ⟨cMss ma mb, 2 * cMss ma mb + 1, 65535⟩ h hk rfl new_iq_ok rfl (by decide) rfl (show (0 : Int) < 2048 - ((0 : Nat) : Int) by decide) (Nat.zero_le _)
    exact h2 : Calls Try.prog 27 #[.pointer (some ⟨ga, 0, none⟩)] W fun e W' => e = .returned (.int .i64 2) ∧ MemX noE w W' (prR gp ga gb va pa0 :: arR va pa0.air :: (cnH ga gia gwa (cE 1 40000 2 80 iss irs ma (cMss ma mb) 0 0 n4 false) ka ++ (cnH gb gib gwb (cE 2 80 1 40000 irs iss mb (cMss mb ma) 1 1 nb false) kb ++ [])))))
  have HYB := Lib.hid (fun (W : World) (gp ga gb gia gwa gib gwb : Nat) (va : Value) (ka kb : KPt) (h : MemX noE w W (prR gp ga gb va pa0 :: arR va pa0.air :: (cnH ga gia gwa (cE 1 40000 2 80 iss irs ma (cMss ma mb) 0 0 n4 false) ka ++ (cnH gb gib gwb (cE 2 80 1 40000 irs iss mb (cMss mb ma) 1 1 n4 false) kb ++ [])))) (hk : KOk kb gib gwb (cE 2 80 1 40000 irs iss mb (cMss mb ma) 1 1 n4 false).h) => (by
    have h2 := readyF (prR gp ga gb va pa0 :: arR va pa0.air :: cnH ga gia gwa (cE 1 40000 2 80 iss irs ma (cMss ma mb) 0 0 n4 false) ka) [] newIQ ⟨cMss mb ma, 2 * cMss mb ma + 1, 65535⟩ h hk rfl new_iq_ok rfl (by decide) rfl (show (0 : Int) < 2048 - ((0 : Nat) : Int) by decide) (Nat.zero_le _)
    exact h2 : Calls Try.prog 27 #[.pointer (some ⟨gb, 0, none⟩)] W fun e W' => e = .returned (.int .i64 2) ∧ MemX noE w W' (prR gp ga gb va pa0 :: arR va pa0.air :: (cnH ga gia gwa (cE 1 40000 2 80 iss irs ma (cMss ma mb) 0 0 n4 false) ka ++ (cnH gb gib gwb (cE 2 80 1 40000 irs iss mb (cMss mb ma) 1 1 n4 false) kb ++ [])))))
  have HCA := Lib.hid cia3
  have HCB := Lib.hid cib2
  have HMA := Lib.hid hA
  have HMB := Lib.hid hB
  clear hoa2 hob2 ciat cibt hA hB g1ok g2ok cia1 cia2 cia3 cib0 cib1 cib2 hob hia hoa hib
  go_enter Try.func7, Try.ntmps7
  go_upto_region 4 with (first | go_skip | (go_at_call 20; refine (HPA.out _).mono ?_; rintro e W ⟨⟨gp, ga, gia, gwa, ka, gb, gib, gwb, kb, va⟩, rfl, hM, hok⟩; obtain ⟨hka, hkb⟩ := hok; have HKA := Lib.hid hka; have HKB := Lib.hid hkb; clear hka hkb; replace hM := (show MemX noE w W (prR gp ga gb va pa0 :: arR va pa0.air :: (cnH ga gia gwa (cA1 1 40000 2 80 iss ma) ka ++ (cnH gb gib gwb (cTake 2 80 (gSyn 1 40000 2 80 iss ma) irs mb) kb ++ []))) from hM); dsimp only))
  go_upto_region 5 with (first | go_skip | ((with_reducible refine at_load_ ?_); refine at_wanted_ (by rfl) ?_; first | (refine wpList_loadf_mem (by go_simp) _ _ rfl (by kernel_rfl) 0 _ _ _ _ _ hM rfl rfl rfl ?_)) | (go_at_call 15; refine (HOB.out _ gp ga gb gia gwa gib gwb va ka kb hM HKB.out).mono ?_; clear hM HKB; rintro e W ⟨v1, kb1, rfl, hM, hK⟩; have HKB := Lib.hid hK; clear hK; obtain ⟨g1, of1, q1, rfl⟩ := row_one hM; dsimp only))
  clear HOB
  go_upto_region 7 with (first | go_skip | ((with_reducible refine at_load_ ?_); refine at_wanted_ (by rfl) ?_; first | (refine wpList_loadrf (by go_simp) _ _ rfl (by kernel_rfl) 0 0 6 (gSA 2 80 1 40000 irs iss mb) _ hM rfl (fun _ _ => rfl) rfl rfl (by first  | rfl) ?_) | (refine wpList_loadrf (by go_simp) _ _ rfl (by kernel_rfl) 0 0 7 (gSA 2 80 1 40000 irs iss mb) _ hM rfl (fun _ _ => rfl) rfl rfl (by first  | rfl) ?_) | (refine wpList_loadrf (by go_simp) _ _ rfl (by kernel_rfl) 0 0 5 (gSA 2 80 1 40000 irs iss mb) _ hM rfl (fun _ _ => rfl) rfl rfl (by first  | rfl) ?_) | (refine wpList_loadrf (by go_simp) _ _ rfl (by kernel_rfl) 0 0 4 (gSA 2 80 1 40000 irs iss mb) _ hM rfl (fun _ _ => rfl) rfl rfl (by first  | rfl) ?_)))
  have HW0 := Lib.hid (fun (W : World) (h : (rowR 13 cSeg (.slice (some ⟨g1, of1, none⟩) 1 q1) [gSA 2 80 1 40000 irs iss mb]).P W) => h)
  refine wp_region_M [0,1] [] hM (by kernel_rfl) ?_
  clear hM
  intro wo hM
  refine wpI_takeP (i := 0) (v := ?_) rfl (by kernel_rfl) (by kernel_rfl) (by kernel_rfl) (by first | exact fun _ _ _ h => h | exact fun _ _ _ h => HQ0.out _ _ _ _ _ h) (Or.inl ⟨by rfl, ?hy⟩) ?_
  case hy => (intro W; go_simp; (try with_reducible rfl))
  simp only [Act.put, List.getElem_toArray, List.getElem_cons_succ, List.getElem_cons_zero, List.setIfInBounds_toArray, List.set_cons_zero, List.set_cons_succ]
  refine wpI_takeP (i := 1) (v := ?_) rfl (by kernel_rfl) (by kernel_rfl) (by kernel_rfl) (by first | exact fun _ _ _ h => h | exact fun _ _ _ h => HQ0.out _ _ _ _ _ h) (Or.inl ⟨by rfl, ?hy⟩) ?_
  case hy => (intro W; go_simp; (try with_reducible rfl))
  simp only [Act.put, List.getElem_toArray, List.getElem_cons_succ, List.getElem_cons_zero, List.setIfInBounds_toArray, List.set_cons_zero, List.set_cons_succ]
  refine wpI_takeP (i := 2) (v := ?_) rfl (by kernel_rfl) (by kernel_rfl) (by kernel_rfl) (by first | exact fun _ _ _ h => h | exact fun _ _ _ h => HQ0.out _ _ _ _ _ h) (Or.inl ⟨by rfl, ?hy⟩) ?_
  case hy => (intro W; go_simp; (try with_reducible rfl))
  simp only [Act.put, List.getElem_toArray, List.getElem_cons_succ, List.getElem_cons_zero, List.setIfInBounds_toArray, List.set_cons_zero, List.set_cons_succ]
  refine wpI_takeP (i := 3) (v := ?_) rfl (by kernel_rfl) (by kernel_rfl) (by kernel_rfl) (by first | exact fun _ _ _ h => h | exact fun _ _ _ h => HQ0.out _ _ _ _ _ h) (Or.inl ⟨by rfl, ?hy⟩) ?_
  case hy => (intro W; go_simp; (try with_reducible rfl))
  simp only [Act.put, List.getElem_toArray, List.getElem_cons_succ, List.getElem_cons_zero, List.setIfInBounds_toArray, List.set_cons_zero, List.set_cons_succ]
  refine wpI_take (i := 4) (v := ?_) rfl (by kernel_rfl) (by kernel_rfl) (by kernel_rfl) (by kernel_rfl) (by first | exact fun _ _ _ h => h | exact fun _ _ _ h => HQ0.out _ _ _ _ _ h) ⟨fun r hr => hM.get 0 hr, fun r hr => hM.get 1 hr, trivial⟩ (Or.inl ⟨by rfl, ?hy⟩) ?_
  case hy => (rintro W ⟨i0, i1, -⟩; have c0 := HW0.out W (i0 _ rfl); have c1 := (show At W _ _ _ from i1 _ rfl).cell; (try simp only [prC] at c1); go_simp; (try with_reducible rfl))
  simp only [Act.put, List.getElem_toArray, List.getElem_cons_succ, List.getElem_cons_zero, List.setIfInBounds_toArray, List.set_cons_zero, List.set_cons_succ]
  refine wpI_takeP (i := 5) (v := ?_) rfl (by kernel_rfl) (by kernel_rfl) (by kernel_rfl) (by first | exact fun _ _ _ h => h | exact fun _ _ _ h => HQ0.out _ _ _ _ _ h) (Or.inl ⟨by rfl, ?hy⟩) ?_
  case hy => (intro W; go_simp; (try with_reducible rfl))
  simp only [Act.put, List.getElem_toArray, List.getElem_cons_succ, List.getElem_cons_zero, List.setIfInBounds_toArray, List.set_cons_zero, List.set_cons_succ]
  refine wpI_takeP (i := 6) (v := ?_) rfl (by kernel_rfl) (by kernel_rfl) (by kernel_rfl) (by first | exact fun _ _ _ h => h | exact fun _ _ _ h => HQ0.out _ _ _ _ _ h) (Or.inl ⟨by rfl, ?hy⟩) ?_
  case hy => (intro W; go_simp; (try with_reducible rfl))
  simp only [Act.put, List.getElem_toArray, List.getElem_cons_succ, List.getElem_cons_zero, List.setIfInBounds_toArray, List.set_cons_zero, List.set_cons_succ]
  refine wpI_take (i := 7) (v := .agg (cSeg (gSA 2 80 1 40000 irs iss mb)).toArray) rfl (by kernel_rfl) (by kernel_rfl) (by kernel_rfl) (by kernel_rfl) (by first | exact fun _ _ _ h => h | exact fun _ _ _ h => HQ0.out _ _ _ _ _ h) ⟨fun r hr => hM.get 0 hr, fun r hr => hM.get 1 hr, trivial⟩ (Or.inl ⟨by rfl, ?hy⟩) ?_
  case hy => (rintro W ⟨i0, i1, -⟩; have c0 := HW0.out W (i0 _ rfl); have c1 := (show At W _ _ _ from i1 _ rfl).cell; (try simp only [prC] at c1); exact exec_loadw _ _ rfl g1 (of1 + 0 * 13) rfl (cSeg (gSA 2 80 1 40000 irs iss mb)) _ Try.underlying33 rfl sz_Seg (row_range (f := cSeg) (size := 13) (rs := [gSA 2 80 1 40000 irs iss mb]) (fun _ => rfl) (i0 _ rfl) 0 _ rfl))
  simp only [Act.put, List.getElem_toArray, List.getElem_cons_succ, List.getElem_cons_zero, List.setIfInBounds_toArray, List.set_cons_zero, List.set_cons_succ]
  refine wpI_one (i := 8) rfl (by kernel_rfl) ?_
  (try simp only [Act.put, List.getElem_toArray, List.getElem_cons_succ, List.getElem_cons_zero, List.setIfInBounds_toArray, List.set_cons_zero, List.set_cons_succ])
  go_wp2_with (first
      | go_skip
      | ((go_at_call 19; refine (HIA.out _ gp ga gb gia gwa gib gwb va _ ka kb1 hM HKA.out).mono ?_; clear hM HKA; rintro e W ⟨gia1, gwa1, ka1, rfl, hM, hK⟩; have HKA := Lib.hid hK; clear hK; dsimp only))
      | ((with_reducible refine at_box_ ?_); refine wpList_box_mem rfl _ _ rfl _ rfl hM ?_; clear hM; intro gb W hM; first | (simp only [List.nil_append] at hM) | (simp only [List.cons_append, List.nil_append] at hM)))
  refine contI_normal ⟨fun r hr => hM.get 0 hr, fun r hr => hM.get 1 hr, trivial⟩ ?_
  (try simp only [Act.put, List.getElem_toArray, List.getElem_cons_succ, List.getElem_cons_zero, List.setIfInBounds_toArray, List.set_cons_zero, List.set_cons_succ])
  refine wpI_done (by kernel_rfl) ?_ _
  (try simp only [Act.put, List.getElem_toArray, List.getElem_cons_succ, List.getElem_cons_zero, List.setIfInBounds_toArray, List.set_cons_zero, List.set_cons_succ])
  clear HIA HW0
  go_upto_region 9 with (first | go_skip | ((with_reducible refine at_load_ ?_); refine at_wanted_ (by rfl) ?_; first | (refine wpList_loadf_mem (by go_simp) _ _ rfl (by kernel_rfl) 1 _ _ _ _ _ hM rfl rfl rfl ?_)) | (go_at_call 15; refine (HOA.out _ gp ga gb gia1 gwa1 gib gwb va _ ka1 kb1 hM HKA.out).mono ?_; clear hM HKA; rintro e W ⟨v2, ka2, rfl, hM, hK⟩; have HKA := Lib.hid hK; clear hK; obtain ⟨g2, of2, q2, rfl⟩ := row_one hM; dsimp only))
  clear HOA
  go_upto_region 11 with (first | go_skip | ((with_reducible refine at_load_ ?_); refine at_wanted_ (by rfl) ?_; first | (refine wpList_loadrf (by go_simp) _ _ rfl (by kernel_rfl) 0 0 6 (gAk 1 40000 2 80 iss irs) _ hM rfl (fun _ _ => rfl) rfl rfl (by first  | rfl) ?_) | (refine wpList_loadrf (by go_simp) _ _ rfl (by kernel_rfl) 0 0 5 (gAk 1 40000 2 80 iss irs) _ hM rfl (fun _ _ => rfl) rfl rfl (by first  | rfl) ?_) | (refine wpList_loadrf (by go_simp) _ _ rfl (by kernel_rfl) 0 0 4 (gAk 1 40000 2 80 iss irs) _ hM rfl (fun _ _ => rfl) rfl rfl (by first  | rfl) ?_) | (refine wpList_loadrf (by go_simp) _ _ rfl (by kernel_rfl) 0 0 12 (gAk 1 40000 2 80 iss irs) _ hM rfl (fun _ _ => rfl) rfl rfl (by first  | rfl) ?_)))
  have HW0 := Lib.hid (fun (W : World) (h : (rowR 13 cSeg (.slice (some ⟨g2, of2, none⟩) 1 q2) [gAk 1 40000 2 80 iss irs]).P W) => h)
  refine wp_region_M [0,2] [] hM (by kernel_rfl) ?_
  clear hM
  intro wo hM
  refine wpI_takeP (i := 0) (v := ?_) rfl (by kernel_rfl) (by kernel_rfl) (by kernel_rfl) (by first | exact fun _ _ _ h => h | exact fun _ _ _ h => HQ0.out _ _ _ _ _ h) (Or.inl ⟨by rfl, ?hy⟩) ?_
  case hy => (intro W; go_simp; (try with_reducible rfl))
  simp only [Act.put, List.getElem_toArray, List.getElem_cons_succ, List.getElem_cons_zero, List.setIfInBounds_toArray, List.set_cons_zero, List.set_cons_succ]
  refine wpI_takeP (i := 1) (v := ?_) rfl (by kernel_rfl) (by kernel_rfl) (by kernel_rfl) (by first | exact fun _ _ _ h => h | exact fun _ _ _ h => HQ0.out _ _ _ _ _ h) (Or.inl ⟨by rfl, ?hy⟩) ?_
  case hy => (intro W; go_simp; (try with_reducible rfl))
  simp only [Act.put, List.getElem_toArray, List.getElem_cons_succ, List.getElem_cons_zero, List.setIfInBounds_toArray, List.set_cons_zero, List.set_cons_succ]
  refine wpI_takeP (i := 2) (v := ?_) rfl (by kernel_rfl) (by kernel_rfl) (by kernel_rfl) (by first | exact fun _ _ _ h => h | exact fun _ _ _ h => HQ0.out _ _ _ _ _ h) (Or.inl ⟨by rfl, ?hy⟩) ?_
  case hy => (intro W; go_simp; (try with_reducible rfl))
  simp only [Act.put, List.getElem_toArray, List.getElem_cons_succ, List.getElem_cons_zero, List.setIfInBounds_toArray, List.set_cons_zero, List.set_cons_succ]
  refine wpI_takeP (i := 3) (v := ?_) rfl (by kernel_rfl) (by kernel_rfl) (by kernel_rfl) (by first | exact fun _ _ _ h => h | exact fun _ _ _ h => HQ0.out _ _ _ _ _ h) (Or.inl ⟨by rfl, ?hy⟩) ?_
  case hy => (intro W; go_simp; (try with_reducible rfl))
  simp only [Act.put, List.getElem_toArray, List.getElem_cons_succ, List.getElem_cons_zero, List.setIfInBounds_toArray, List.set_cons_zero, List.set_cons_succ]
  refine wpI_take (i := 4) (v := ?_) rfl (by kernel_rfl) (by kernel_rfl) (by kernel_rfl) (by kernel_rfl) (by first | exact fun _ _ _ h => h | exact fun _ _ _ h => HQ0.out _ _ _ _ _ h) ⟨fun r hr => hM.get 0 hr, fun r hr => hM.get 2 hr, trivial⟩ (Or.inl ⟨by rfl, ?hy⟩) ?_
  case hy => (rintro W ⟨i0, i2, -⟩; have c0 := HW0.out W (i0 _ rfl); have c2 := (show At W _ _ _ from i2 _ rfl).cell; (try simp only [prC] at c2); go_simp; (try with_reducible rfl))
  simp only [Act.put, List.getElem_toArray, List.getElem_cons_succ, List.getElem_cons_zero, List.setIfInBounds_toArray, List.set_cons_zero, List.set_cons_succ]
  refine wpI_takeP (i := 5) (v := ?_) rfl (by kernel_rfl) (by kernel_rfl) (by kernel_rfl) (by first | exact fun _ _ _ h => h | exact fun _ _ _ h => HQ0.out _ _ _ _ _ h) (Or.inl ⟨by rfl, ?hy⟩) ?_
  case hy => (intro W; go_simp; (try with_reducible rfl))
  simp only [Act.put, List.getElem_toArray, List.getElem_cons_succ, List.getElem_cons_zero, List.setIfInBounds_toArray, List.set_cons_zero, List.set_cons_succ]
  refine wpI_takeP (i := 6) (v := ?_) rfl (by kernel_rfl) (by kernel_rfl) (by kernel_rfl) (by first | exact fun _ _ _ h => h | exact fun _ _ _ h => HQ0.out _ _ _ _ _ h) (Or.inl ⟨by rfl, ?hy⟩) ?_
  case hy => (intro W; go_simp; (try with_reducible rfl))
  simp only [Act.put, List.getElem_toArray, List.getElem_cons_succ, List.getElem_cons_zero, List.setIfInBounds_toArray, List.set_cons_zero, List.set_cons_succ]
  refine wpI_take (i := 7) (v := .agg (cSeg (gAk 1 40000 2 80 iss irs)).toArray) rfl (by kernel_rfl) (by kernel_rfl) (by kernel_rfl) (by kernel_rfl) (by first | exact fun _ _ _ h => h | exact fun _ _ _ h => HQ0.out _ _ _ _ _ h) ⟨fun r hr => hM.get 0 hr, fun r hr => hM.get 2 hr, trivial⟩ (Or.inl ⟨by rfl, ?hy⟩) ?_
  case hy => (rintro W ⟨i0, i2, -⟩; have c0 := HW0.out W (i0 _ rfl); have c2 := (show At W _ _ _ from i2 _ rfl).cell; (try simp only [prC] at c2); exact exec_loadw _ _ rfl g2 (of2 + 0 * 13) rfl (cSeg (gAk 1 40000 2 80 iss irs)) _ Try.underlying33 rfl sz_Seg (row_range (f := cSeg) (size := 13) (rs := [gAk 1 40000 2 80 iss irs]) (fun _ => rfl) (i0 _ rfl) 0 _ rfl))
  simp only [Act.put, List.getElem_toArray, List.getElem_cons_succ, List.getElem_cons_zero, List.setIfInBounds_toArray, List.set_cons_zero, List.set_cons_succ]
  refine wpI_one (i := 8) rfl (by kernel_rfl) ?_
  (try simp only [Act.put, List.getElem_toArray, List.getElem_cons_succ, List.getElem_cons_zero, List.setIfInBounds_toArray, List.set_cons_zero, List.set_cons_succ])
  go_wp2_with (first
      | go_skip
      | ((go_at_call 19; refine (HIB.out _ gp ga gb gia1 gwa1 gib gwb va _ _ ka2 kb1 hM HKB.out).mono ?_; clear hM HKB; rintro e W ⟨gib1, gwb1, kb2, rfl, hM, hK⟩; have HKB := Lib.hid hK; clear hK; dsimp only))
      | ((with_reducible refine at_box_ ?_); refine wpList_box_mem rfl _ _ rfl _ rfl hM ?_; clear hM; intro gb W hM; first | (simp only [List.nil_append] at hM) | (simp only [List.cons_append, List.nil_append] at hM)))
  refine contI_normal ⟨fun r hr => hM.get 0 hr, fun r hr => hM.get 2 hr, trivial⟩ ?_
  (try simp only [Act.put, List.getElem_toArray, List.getElem_cons_succ, List.getElem_cons_zero, List.setIfInBounds_toArray, List.set_cons_zero, List.set_cons_succ])
  refine wpI_done (by kernel_rfl) ?_ _
  (try simp only [Act.put, List.getElem_toArray, List.getElem_cons_succ, List.getElem_cons_zero, List.setIfInBounds_toArray, List.set_cons_zero, List.set_cons_succ])
  clear HIB HW0
  (go_wp2_with fail)
  replace hM := (show MemX noE w W ([_, _] ++ (prR gp ga gb va pa0 :: arR va pa0.air :: (cnH ga gia1 gwa1 (cE 1 40000 2 80 iss irs ma (cMss ma mb) 0 0 0 false) ka2 ++ (cnH gb gib1 gwb1 (cE 2 80 1 40000 irs iss mb (cMss mb ma) 1 1 0 false) kb2 ++ [])))) from hM).drop_
  go_loopg [126] 2 (fun gh v wr => ∃ (t na nb : Int) (ka kb : KPt), gh = (2 - t).toNat ∧ v = .int .i64 t ∧ ((t = 0 ∧ 0 = na ∧ 0 = nb) ∨ (t = 1 ∧ n4 = na ∧ 0 = nb) ∨ (t = 2 ∧ n4 = na ∧ n4 = nb)) ∧ MemX noE w wr (prR gp ga gb va pa0 :: arR va pa0.air :: (cnH ga gia1 gwa1 (cE 1 40000 2 80 iss irs ma (cMss ma mb) 0 0 na false) ka ++ (cnH gb gib1 gwb1 (cE 2 80 1 40000 irs iss mb (cMss mb ma) 1 1 nb false) kb ++ []))) ∧ Hid (KOk ka gia1 gwa1 (cE 1 40000 2 80 iss irs ma (cMss ma mb) 0 0 na false).h ∧ KOk kb gib1 gwb1 (cE 2 80 1 40000 irs iss mb (cMss mb ma) 1 1 nb false).h))
  case atStart => exact ⟨0, 0, 0, ka2, kb2, rfl, rfl, .inl ⟨rfl, rfl, rfl⟩, hM, Lib.hid ⟨HKA.out, HKB.out⟩⟩
  case round =>
    clear hM HKA HKB
    obtain ⟨t, na, nb, ka, kb, hgh, rfl, ht3, hM, HK⟩ := hrel
    have HGH := Lib.hid hgh
    have HKA := Lib.hid HK.out.1
    have HKB := Lib.hid HK.out.2
    clear hgh HK
    rcases ht3 with ⟨rfl, rfl, rfl⟩ | ⟨rfl, rfl, rfl⟩ | ⟨rfl, rfl, rfl⟩
    · go_wp2_with (first | go_skip | ((with_reducible refine at_load_ ?_); refine at_wanted_ (by rfl) ?_; first | (refine wpList_loadf_mem (by go_simp) _ _ rfl (by kernel_rfl) 0 _ _ _ _ _ hM rfl rfl rfl ?_)) | (go_at_call 13; refine (HR.out _).mono ?_; rintro e W ⟨rfl, rfl⟩; dsimp only) | (go_at_call 18; refine (HTA.out _ gp ga gb gia1 gwa1 gib1 gwb1 va ka kb hM HKA.out).mono ?_; clear hM HKA; rintro e W ⟨rfl, hM, hK⟩; have HK0 := Lib.hid hK; clear hK; dsimp only) | (go_at_call 16; refine (HSA.out _ gp ga gb gia1 gwa1 gib1 gwb1 va ka kb 0 hM).mono ?_; rintro e W ⟨rfl, rfl⟩; dsimp only) | (go_at_call 15; refine (HUA.out _ gp ga gb gia1 gwa1 gib1 gwb1 va ka kb 0 hM HK0.out).mono ?_; clear hM HK0; rintro e W ⟨v3, k1, rfl, hM, hK⟩; have HK1 := Lib.hid hK; clear hK; obtain ⟨A3, q3, hv3⟩ := (hM.row (f := cSeg) (rs := []) 0 rfl).form; replace hv3 : v3 = .slice A3 0 q3 := hv3; subst hv3; replace hM := (show MemX noE w W ([_] ++ _) from hM).drop_; dsimp only) | (go_at_call 27; refine (HYA.out _ gp ga gb gia1 gwa1 gib1 gwb1 va k1 kb 0 hM HK1.out).mono ?_; clear hM; rintro e W ⟨rfl, hM⟩; dsimp only))
      go_roundg 1
      case measure => have h := HGH.out; omega
      case rel => exact ⟨1, n4, 0, k1, kb, rfl, rfl, .inr (.inl ⟨rfl, rfl, rfl⟩), hM, Lib.hid ⟨HK1.out, HKB.out⟩⟩
    · go_wp2_with (first | go_skip | ((with_reducible refine at_load_ ?_); refine at_wanted_ (by rfl) ?_; first | (refine wpList_loadf_mem (by go_simp) _ _ rfl (by kernel_rfl) 0 _ _ _ _ _ hM rfl rfl rfl ?_)) | (go_at_call 13; refine (HR.out _).mono ?_; rintro e W ⟨rfl, rfl⟩; dsimp only) | (go_at_call 18; refine (HTB.out _ gp ga gb gia1 gwa1 gib1 gwb1 va ka kb hM HKB.out).mono ?_; clear hM HKB; rintro e W ⟨rfl, hM, hK⟩; have HK0 := Lib.hid hK; clear hK; dsimp only) | (go_at_call 16; refine (HSB.out _ gp ga gb gia1 gwa1 gib1 gwb1 va ka kb hM).mono ?_; rintro e W ⟨rfl, rfl⟩; dsimp only) | (go_at_call 15; refine (HUB.out _ gp ga gb gia1 gwa1 gib1 gwb1 va ka kb hM HK0.out).mono ?_; clear hM HK0; rintro e W ⟨v3, k1, rfl, hM, hK⟩; have HK1 := Lib.hid hK; clear hK; obtain ⟨A3, q3, hv3⟩ := (hM.row (f := cSeg) (rs := []) 0 rfl).form; replace hv3 : v3 = .slice A3 0 q3 := hv3; subst hv3; replace hM := (show MemX noE w W ([_] ++ _) from hM).drop_; dsimp only) | (go_at_call 27; refine (HYB.out _ gp ga gb gia1 gwa1 gib1 gwb1 va ka k1 hM HK1.out).mono ?_; clear hM; rintro e W ⟨rfl, hM⟩; dsimp only))
      go_roundg 0
      case measure => have h := HGH.out; omega
      case rel => exact ⟨2, n4, n4, ka, k1, rfl, rfl, .inr (.inr ⟨rfl, rfl, rfl⟩), hM, Lib.hid ⟨HKA.out, HK1.out⟩⟩
    · (go_wp2_with fail)
      go_ret
      exact ⟨rfl, hM.b⟩
end Go.Proofs.Ytfpifahkpkjfgaa
