/- What ConnStops needs, a part: CnFf, CnFg, CnQu, CnKa, CnKg. -/
import Derived.Deep.CutBlock
import Derived.Test.YtfpifahkpkjfgaaMConnStops40
import Derived.Test.YtfpifahkpkjfgaaMConnStops42
namespace Go.Proofs.Ytfpifahkpkjfgaa
open Go.RowKit Go.Lib
set_option linter.unusedVariables false
set_option linter.unusedSimpArgs false
def gh0 : KGh := ⟨⟨#[]⟩, ⟨#[]⟩, ⟨#[]⟩, ⟨#[]⟩, false, false⟩
section
variable {iss irs ma mb : Int}
theorem meet_plain (hi : 0 ≤ iss ∧ iss ≤ 4294967295) (hj : 0 ≤ irs ∧ irs ≤ 4294967295) (hA : 8 ≤ ma ∧ ma ≤ 1000) (hB : 8 ≤ mb ∧ mb ≤ 1000) :
  ∃ y0 y2, sends (pr0 iss irs ma mb) = some y0 ∧ PI iss irs 0 0 (pr0 iss irs ma mb) ∧ (∀ g ∈ (cOut (pr0 iss irs ma mb).a).2, SegOk g) ∧ (∀ g ∈ (cOut (pr0 iss irs ma mb).b).2, SegOk g) ∧ Qx 2 y0 y2 ∧ PI iss irs 0 2 (gh gh0 y2) ∧
   y2.a = cE 1 40000 2 80 iss irs ma (cMss ma mb) 0 0 0 false ∧ y2.b = cE 2 80 1 40000 irs iss mb (cMss mb ma) 1 1 0 false ∧ y2.p.air = [] := by
 have h0 := pi_start hi hj hA hB
 obtain ⟨y0, hy, hP, hsa, hsb⟩ := h0.sends
 have e0 : gh gh0 (pr0 iss irs ma mb) = pr0 iss irs ma mb := rfl
 have hg : gh gh0 y0 = y0 := by
  have h := gh_sends gh0 (pr0 iss irs ma mb)
  rw [e0, hy] at h
  exact (Option.some.inj h).symm
 rw [← hg] at hP
 obtain ⟨z1, z2, z3, z4⟩ := sends_outs hy
 have oa : cOut (pr0 iss irs ma mb).a = (cA1 1 40000 2 80 iss ma, []) := out_a1
 have ob : cOut (pr0 iss irs ma mb).b = (cB1 2 80 1 40000 irs iss mb (cMss mb ma), [gSA 2 80 1 40000 irs iss mb]) := out_b (la := 2) (lp := 80) (ra := 1) (rp := 40000) hj (cMss_in hB).1
 rw [oa] at z1 z3
 rw [ob] at z2 z3
 have hair : y0.p.air = [gSA 2 80 1 40000 irs iss mb] := z3
 obtain ⟨z, q1, P1, hz⟩ := qok_pi hP hair (by decide)
 obtain ⟨a1, a2, a3, a4⟩ := sends_outs hz
 have hc1 : come ⟨y0.a, y0.b, { y0.p with air := [] }⟩ (gSA 2 80 1 40000 irs iss mb) = ⟨cIn y0.a (gSA 2 80 1 40000 irs iss mb), y0.b, { y0.p with air := [] }⟩ := by
  unfold come
  exact if_neg (show ¬ ((1 : Int) = 2 ∧ (40000 : Int) = 80) by decide)
 have hia : cIn y0.a (gSA 2 80 1 40000 irs iss mb) = cE 1 40000 2 80 iss irs ma (cMss ma mb) 0 0 0 true := by
  rw [z1]; exact in_sa (by decide) (by decide) hA hB
 have hoa : cOut (cE 1 40000 2 80 iss irs ma (cMss ma mb) 0 0 0 true) = ((cE 1 40000 2 80 iss irs ma (cMss ma mb) 0 0 0 false), [gAk 1 40000 2 80 iss irs]) := out_e (cMss_in hA)
 rw [hc1, hia] at a1 a2 a3
 dsimp only at a1 a2 a3
 rw [z2] at a2 a3
 rw [hoa] at a1 a3
 rw [out_b1'] at a2 a3
 have hair2 : z.p.air = [gAk 1 40000 2 80 iss irs] := a3
 obtain ⟨y, q2, P2, hy2⟩ := qok_pi P1 hair2 (by decide)
 obtain ⟨b1, b2, b3, b4⟩ := sends_outs hy2
 have hc2 : come ⟨z.a, z.b, { z.p with air := [] }⟩ (gAk 1 40000 2 80 iss irs) = ⟨z.a, cIn z.b (gAk 1 40000 2 80 iss irs), { z.p with air := [] }⟩ := by
  unfold come
  exact if_pos (show ((2 : Int) = 2 ∧ (80 : Int) = 80) by decide)
 have hib : cIn z.b (gAk 1 40000 2 80 iss irs) = cE 2 80 1 40000 irs iss mb (cMss mb ma) 1 1 0 false := by
  rw [a2]; exact in_ak (by decide) (by decide) (cMss_in hB)
 have hoa2 : cOut (cE 1 40000 2 80 iss irs ma (cMss ma mb) 0 0 0 false) = ((cE 1 40000 2 80 iss irs ma (cMss ma mb) 0 0 0 false), []) := out_e (cMss_in hA)
 have hob2 : cOut (cE 2 80 1 40000 irs iss mb (cMss mb ma) 1 1 0 false) = ((cE 2 80 1 40000 irs iss mb (cMss mb ma) 1 1 0 false), []) := out_e (cMss_in hB)
 rw [hc2, hib] at b1 b2 b3
 dsimp only at b1 b2 b3
 rw [a1, hoa2] at b1 b3
 rw [hob2] at b2 b3
 exact ⟨y0, y, hy, h0, hsa, hsb, ⟨_, _, z, hair, q1, _, _, y, hair2, q2, rfl, b3⟩, P2, b1, b2, b3⟩
end
section
variable {la lp ra rp iss irs own m wat wak now st D : Int} {o : OQ} {sh : Bool}
theorem fs_e {c : KCn} {A B : KAd} (ha : A = ⟨la, lp, ra, rp, iss⟩) (hb : B.iss = irs) (hm : 8 ≤ m ∧ m ≤ 1000) (x : Int) (hc : c = { cE la lp ra rp iss irs own m wat wak now false with o := o, shut := sh, st := st, clock := x })
  (ok : OqOk o) (hu : o.una = 1) (hcu : o.cur = 1) (hse : o.sent = 1) (hcl : o.cl = sh) (he : qEnd o ≤ 2097152) (hst : (sh = false ∧ st = 3) ∨ (sh = true ∧ st = 4)) :
  FS A B c newIQ 1 1 1 (2 * m + 1) 2049 := by
 subst ha hc
 refine ⟨⟨rfl, rfl, rfl, rfl, rfl⟩, hb.symm, ?_, hcl, rfl, rfl, rfl, rfl, ok, hu, hcu, hse, Int.le_refl 1, he, hm, rfl, rfl, ?_, new_iq_ok, stop_new, rfl, fun _ => rfl, ⟨by decide, by decide⟩, ⟨by decide, by decide⟩⟩
 ·show (sh = false ∧ (st = 3 ∨ st = 6)) ∨ (sh = true ∧ (st = 4 ∨ st = 8))
  rcases hst with ⟨h1, h2⟩ | ⟨h1, h2⟩
  ·exact .inl ⟨h1, .inl h2⟩
  ·exact .inr ⟨h1, .inl h2⟩
 ·show m ≤ 2 * m + 1 ∧ 2 * m + 1 ≤ 65535
  omega
theorem fr_e {A B : KAd} (hb : B = ⟨la, lp, ra, rp, iss⟩) (ha : A.iss = irs) : FR A B (cE la lp ra rp iss irs own m wat wak now false) 1 1 1 (some 2048) ⟨m, 2 * m + 1, 65535⟩ m false ⟨[], 1, 1, 1, 1, false⟩ false false := by
 subst hb
 exact ⟨⟨rfl, rfl, rfl, rfl, rfl⟩, ha.symm, rfl, rfl, (fun e => by cases e), rfl, rfl, rfl, rfl, rfl, rfl, rfl, rfl, rfl, ⟨by decide, by decide⟩, ⟨by decide, by decide⟩, (fun x e => by cases e; rfl), rfl, newIQ, rfl, new_iq_ok, rfl, fun _ => ⟨fun _ => rfl, rfl, rfl⟩, rfl, rfl⟩
end
def SOk (x z : KPr) : Prop :=
 ∃ t : Int, t ≤ 1000000000000 ∧ CI x.a t ∧ CI x.b t ∧ POk x.p ∧ x.p.air.length ≤ 1000000000 ∧ sends x = some z ∧ (∀ s ∈ (cOut x.a).2, SegOk s) ∧ (∀ s ∈ (cOut x.b).2, SegOk s)
theorem sok_pi {iss irs : Int} {N : Nat} {t : Int} {h : KGh} {x : KPr} (hP : PI iss irs N t (gh h x)) (ht : t ≤ 100000000) : ∃ z, SOk x z ∧ PI iss irs N t (gh h z) := by
 obtain ⟨y, hy, hPy, hsa, hsb⟩ := hP.sends
 rw [gh_sends] at hy
 obtain ⟨z, hz, rfl⟩ := Option.map_eq_some_iff.1 hy
 have hok := hP.ok
 have hlen := hP.len
 have hl : ((gh h x).p.air.length : Int) = x.p.air.length := rfl
 exact ⟨z, ⟨t, by omega, hP.ciA, hP.ciB, ⟨hok.e0, hok.e1⟩, by omega, hz, hsa, hsb⟩, hPy⟩
theorem ok_e : OqOk ⟨[], 1, 1, 1, 1, false⟩ := ⟨by decide, by decide, by decide, by decide, by decide, by decide, .inr ⟨by decide, by decide⟩⟩
theorem fin_w {T : ByteArray} (hT : T.size ≤ 1000) : oFin (oWrite ⟨[], 1, 1, 1, 1, false⟩ T) = 1 + T.size := by
 have hn : oN ⟨[], 1, 1, 1, 1, false⟩ T.size = T.size := by
  unfold oN oRoom
  simp
  omega
 unfold oFin oWrite
 rw [hn]
 show (1 : Int) + (([] ++ sI (T.extract 0 T.size) : List Int).length : Int) = _
 rw [List.nil_append, sI_len, ByteArray.size_extract]
 omega
structure BrkAll (iss irs : Int) (y : KPr) (T : ByteArray) : Prop where
 w : (cWrite y.a T).2.2 = 0
 go : ∃ (x4 x5 x7 x8 : KPr) (k : Nat), SOk ⟨(cWrite y.a T).1, y.b, y.p⟩ x4 ∧ k ≤ 9001 ∧ Qx k x4 x5 ∧ (∃ t : Int, t ≤ 1000000000000 ∧ CI x5.a t) ∧ (cAbort x5.a).2 = 0 ∧ SOk ⟨(cAbort x5.a).1, x5.b, x5.p⟩ x7 ∧
  Qx 1 ⟨x7.a, x7.b, { x7.p with br := true }⟩ x8 ∧ x8.b.st = 0 ∧ x8.b.why = 12 ∧ x8.a.why = 17 ∧ (∃ t : Int, t ≤ 1000000 ∧ CI x8.b t) ∧
  (cRead x8.b 999).2.2.2 = (if T.size = 0 then 12 else 0) ∧ (T.size ≠ 0 → (cRead x8.b 999).2.1 = T ∧ (cRead (cRead x8.b 999).1 9).2.2.2 = 12 ∧ (cWrite (cRead (cRead x8.b 999).1 9).1 ⟨#[120]⟩).2.2 = 12) ∧
  (T.size = 0 → (cRead x8.b 9).2.2.2 = 12 ∧ (cWrite (cRead x8.b 9).1 ⟨#[120]⟩).2.2 = 12)
theorem sends_p {E : Nat → Prop} {w0 W : World} (gp ga gia gwa : Nat) (ka : KPt) (gb gib gwb : Nat) (kb : KPt) (va : Value) (x z : KPr) (m : List Res) (hs : SOk x z) (h : MemX E w0 W (prM (⟨gp, ga, gia, gwa, ka, gb, gib, gwb, kb, va⟩ : KPl) x m)) (hok : KPl.ok (⟨gp, ga, gia, gwa, ka, gb, gib, gwb, kb, va⟩ : KPl) x) :
  Calls Try.prog 21 #[.pointer (some ⟨gp, 0, none⟩)] W fun e W' => e = .returned (.bool true) ∧ ∃ ka' kb' va', MemX E w0 W' (prM (⟨gp, ga, gia, gwa, ka', gb, gib, gwb, kb', va'⟩ : KPl) z m) ∧ KPl.ok (⟨gp, ga, gia, gwa, ka', gb, gib, gwb, kb', va'⟩ : KPl) z := by
 obtain ⟨t, s1, s2, s3, s4, s5, s6, s7, s8⟩ := hs
 refine (sends_any (⟨gp, ga, gia, gwa, ka, gb, gib, gwb, kb, va⟩ : KPl) x z m W h hok t s2 s3 s1 s6 s4 s5 s7 s8).mono ?_
 rintro e W' ⟨ka', kb', va', rfl, h2, h3⟩
 exact ⟨rfl, ka', kb', va', h2, h3⟩
theorem quiet_p {E : Nat → Prop} {w0 W : World} (gp ga gia gwa : Nat) (ka : KPt) (gb gib gwb : Nat) (kb : KPt) (va : Value) (x z : KPr) (m : List Res) (n : Nat) (hn : n ≤ 9001) (hq : Qx n x z) (h : MemX E w0 W (prM (⟨gp, ga, gia, gwa, ka, gb, gib, gwb, kb, va⟩ : KPl) x m)) (hok : KPl.ok (⟨gp, ga, gia, gwa, ka, gb, gib, gwb, kb, va⟩ : KPl) x) :
  Calls Try.prog 24 #[.pointer (some ⟨gp, 0, none⟩)] W fun e W' => e = .returned (.bool true) ∧ ∃ gia' gwa' ka' gib' gwb' kb' va', MemX E w0 W' (prM (⟨gp, ga, gia', gwa', ka', gb, gib', gwb', kb', va'⟩ : KPl) z m) ∧ KPl.ok (⟨gp, ga, gia', gwa', ka', gb, gib', gwb', kb', va'⟩ : KPl) z := by
 refine (quiet_any (⟨gp, ga, gia, gwa, ka, gb, gib, gwb, kb, va⟩ : KPl) x z m W h hok n hn hq).mono ?_
 rintro e W' ⟨rfl, ⟨gp1, ga1, gia1, gwa1, ka1, gb1, gib1, gwb1, kb1, va1⟩, h2, h3, e1, e2, e3⟩
 dsimp only at e1 e2 e3
 subst e1 e2 e3
 exact ⟨rfl, gia1, gwa1, ka1, gib1, gwb1, kb1, va1, h2, h3⟩
section
variable {E : Nat → Prop} {w W : World} {gc gi gw : Nat} {c : KCn} {k : KPt}
theorem wrF (F m : List Res) {t : Int} (h : MemX E w W (F ++ (cnH gc gi gw c k ++ m))) (hk : KOk k gi gw c.h) (hc : CI c t) (ht : t ≤ 1000000000000) (s : ByteArray) (hs : s.size ≤ 140737488351232) :
  Calls Try.prog 23 #[.pointer (some ⟨gc, 0, none⟩), .string s] W fun e W' => ∃ k', e = .returned (.tuple #[.int .i64 (cWrite c s).2.1, .int .i64 (cWrite c s).2.2]) ∧ MemX E w W' (F ++ (cnH gc gi gw (cWrite c s).1 k' ++ m)) ∧ KOk k' gi gw (cWrite c s).1.h := by
 have h9 := hc.cok (by omega)
 have h8 := h9.hb
 refine (cWrite_any gc gi gw c k (F ++ m) W (cn_at h) hk s hc.o (by omega) hs).mono ?_
 rintro e W' ⟨k', rfl, h2, hk'⟩
 exact ⟨k', rfl, cn_un h2, hk'⟩
theorem rdF (F m : List Res) {t : Int} (h : MemX E w W (F ++ (cnH gc gi gw c k ++ m))) (hk : KOk k gi gw c.h) (hc : CI c t) (most : Int) (hm : -9223372036854775808 ≤ most) (hm' : most ≤ 9223372036854775807) :
  Calls Try.prog 26 #[.pointer (some ⟨gc, 0, none⟩), .int .i64 most] W fun e W' => e = .returned (.tuple #[.string (cRead c most).2.1, .bool (cRead c most).2.2.1, .int .i64 (cRead c most).2.2.2]) ∧ MemX E w W' (F ++ (cnH gc gi gw (cRead c most).1 k ++ m)) ∧ KOk k gi gw (cRead c most).1.h := by
 have hq : c.h ≠ none → IqOk (cQ c) := by
  intro hh
  obtain ⟨x, hx⟩ := Option.ne_none_iff_exists'.1 hh
  obtain ⟨q, d⟩ := x
  have hq : cQ c = q := by unfold cQ; rw [hx]
  rw [hq]
  exact (hc.hs q d hx).1
 refine (cRead_any gc gi gw c k (F ++ m) W (cn_at h) hk most hq hm hm').mono ?_
 rintro e W' ⟨rfl, h2, hk'⟩
 exact ⟨rfl, cn_un h2, hk'⟩
end
theorem wr_p0 {E : Nat → Prop} {w0 W : World} (gp ga gia gwa : Nat) (ka : KPt) (gb gib gwb : Nat) (kb : KPt) (va : Value) (x : KPr) (m : List Res) {t : Int} (hc : CI x.a t) (ht : t ≤ 1000000000000) (s : ByteArray) (hs : s.size ≤ 140737488351232) (h : MemX E w0 W (prM (⟨gp, ga, gia, gwa, ka, gb, gib, gwb, kb, va⟩ : KPl) x m)) (hok : KPl.ok (⟨gp, ga, gia, gwa, ka, gb, gib, gwb, kb, va⟩ : KPl) x) :
  Calls Try.prog 23 #[.pointer (some ⟨ga, 0, none⟩), .string s] W fun e W' => ∃ k', e = .returned (.tuple #[.int .i64 (cWrite x.a s).2.1, .int .i64 (cWrite x.a s).2.2]) ∧ MemX E w0 W' (prM (⟨gp, ga, gia, gwa, k', gb, gib, gwb, kb, va⟩ : KPl) (⟨(cWrite x.a s).1, x.b, x.p⟩ : KPr) m) ∧ KPl.ok (⟨gp, ga, gia, gwa, k', gb, gib, gwb, kb, va⟩ : KPl) (⟨(cWrite x.a s).1, x.b, x.p⟩ : KPr) := by
 refine (wrF [prR gp ga gb va x.p, arR va x.p.air] (cnH gb gib gwb x.b kb ++ m) h hok.1 hc ht s hs).mono ?_
 rintro e W' ⟨k', rfl, h2, hk⟩
 exact ⟨k', rfl, h2, ⟨hk, hok.2⟩⟩
theorem st_p0 {E : Nat → Prop} {w0 W : World} (gp ga gia gwa : Nat) (ka : KPt) (gb gib gwb : Nat) (kb : KPt) (va : Value) (x : KPr) (m : List Res) (h : MemX E w0 W (prM (⟨gp, ga, gia, gwa, ka, gb, gib, gwb, kb, va⟩ : KPl) x m)) :
  Calls Try.prog 16 #[.pointer (some ⟨ga, 0, none⟩)] W fun e W' => e = .returned (.int .i64 x.a.st) ∧ W = W' := stateF [prR gp ga gb va x.p, arR va x.p.air] (cnH gb gib gwb x.b kb ++ m) h
theorem rd_p1 {E : Nat → Prop} {w0 W : World} (gp ga gia gwa : Nat) (ka : KPt) (gb gib gwb : Nat) (kb : KPt) (va : Value) (x : KPr) (m : List Res) {t : Int} (hc : CI x.b t) (most : Int) (hm : -9223372036854775808 ≤ most) (hm' : most ≤ 9223372036854775807) (h : MemX E w0 W (prM (⟨gp, ga, gia, gwa, ka, gb, gib, gwb, kb, va⟩ : KPl) x m)) (hok : KPl.ok (⟨gp, ga, gia, gwa, ka, gb, gib, gwb, kb, va⟩ : KPl) x) :
  Calls Try.prog 26 #[.pointer (some ⟨gb, 0, none⟩), .int .i64 most] W fun e W' => e = .returned (.tuple #[.string (cRead x.b most).2.1, .bool (cRead x.b most).2.2.1, .int .i64 (cRead x.b most).2.2.2]) ∧ MemX E w0 W' (prM (⟨gp, ga, gia, gwa, ka, gb, gib, gwb, kb, va⟩ : KPl) (⟨x.a, (cRead x.b most).1, x.p⟩ : KPr) m) ∧ KPl.ok (⟨gp, ga, gia, gwa, ka, gb, gib, gwb, kb, va⟩ : KPl) (⟨x.a, (cRead x.b most).1, x.p⟩ : KPr) := by
 refine (rdF (prR gp ga gb va x.p :: arR va x.p.air :: cnH ga gia gwa x.a ka) m h hok.2 hc most hm hm').mono ?_
 rintro e W' ⟨rfl, h2, hk⟩
 exact ⟨rfl, h2, ⟨hok.1, hk⟩⟩
theorem st_p1 {E : Nat → Prop} {w0 W : World} (gp ga gia gwa : Nat) (ka : KPt) (gb gib gwb : Nat) (kb : KPt) (va : Value) (x : KPr) (m : List Res) (h : MemX E w0 W (prM (⟨gp, ga, gia, gwa, ka, gb, gib, gwb, kb, va⟩ : KPl) x m)) :
  Calls Try.prog 16 #[.pointer (some ⟨gb, 0, none⟩)] W fun e W' => e = .returned (.int .i64 x.b.st) ∧ W = W' := stateF (prR gp ga gb va x.p :: arR va x.p.air :: cnH ga gia gwa x.a ka) m h
structure MS where
 Z : List (Bool × Int)
 w : Int
 U : Int
 C : Int
def cutZ : Nat → Int → Int → List Int
 | 0, _, _ => []
 | f + 1, m, n => if n ≤ 0 then [] else if m < n then m :: cutZ f m (n - m) else [n]
def upTo (L x C : Int) : Int := if C < (if x < L then x else L) then (if x < L then x else L) else C
def mstep (m l L : Int) (x : MS) : MS :=
 match x.Z with
 | [] => x
 | (true, n) :: z => ⟨z ++ [(false, n)], x.w, x.U, x.C⟩
 | (false, n) :: z => ⟨z ++ (cutZ 2100 m (upTo L (x.U + n + ackZ m x.w l n) x.C - x.C)).map (fun k => (true, k)), ackZ m x.w l n, x.U + n, upTo L (x.U + n + ackZ m x.w l n) x.C⟩
def AirZ (A B : KAd) (V : Int) (R : Option Int) (D : Int) : List KSeg → List (Bool × Int) → Int → Int → Int → Int → Prop
 | [], [], N, C, U, M => N = C ∧ U = M
 | g :: l, (true, n) :: z, N, C, U, M => Dat A B V R g N ∧ g.fin = false ∧ sgLen g = n ∧ AirZ A B V R D l z (N + n) C U M
 | g :: l, (false, n) :: z, N, C, U, M => Ack A B V g (U + n) (D + 2048 - (U + n)) ∧ 1 ≤ n ∧ AirZ A B V R D l z N C (U + n) M
 | [], _ :: _, _, _, _, _ => False
 | _ :: _, [], _, _, _, _ => False
section
variable {A B : KAd} {s r : KCn} {q : IQ} {N V D a win U C C' w E Z m Q L M n k ℓ : Int} {fl ow cl : Bool} {g : KSeg} {o : Nat} {ds : List KSeg} {R : Option Int} {W : KWd} {mr : Int} {sr : Bool} {O : OQ}
theorem az_len : ∀ {l : List KSeg} {z : List (Bool × Int)} {N C U M : Int}, AirZ A B V R D l z N C U M → l.length = z.length ∧ N ≤ C ∧ U ≤ M
  | [], [], N, C, U, M, h => ⟨rfl, by have := h.1; omega, by have := h.2; omega⟩
  | g :: l, (true, n) :: z, N, C, U, M, h => by
    obtain ⟨d1, d2, d3, d4⟩ := h
    obtain ⟨e1, e2, e3⟩ := az_len d4
    have := d1.len
    exact ⟨by rw [List.length_cons, List.length_cons, e1], by omega, e3⟩
  | g :: l, (false, n) :: z, N, C, U, M, h => by
    obtain ⟨d1, d2, d4⟩ := h
    obtain ⟨e1, e2, e3⟩ := az_len d4
    exact ⟨by rw [List.length_cons, List.length_cons, e1], e2, by omega⟩
  | [], _ :: _, _, _, _, _, h => h.elim
  | _ :: _, [], _, _, _, _, h => h.elim
theorem az_ack (hn : 1 ≤ n) (hg : Ack A B V g (M + n) (D + 2048 - (M + n))) : ∀ {l : List KSeg} {z : List (Bool × Int)} {N U : Int}, AirZ A B V R D l z N C U M → AirZ A B V R D (l ++ [g]) (z ++ [(false, n)]) N C U (M + n)
  | [], [], N, U, h => by
    obtain ⟨h1, h2⟩ := h
    subst h1 h2
    exact ⟨hg, hn, rfl, rfl⟩
  | x :: l, (true, k) :: z, N, U, h => ⟨h.1, h.2.1, h.2.2.1, az_ack hn hg h.2.2.2⟩
  | x :: l, (false, k) :: z, N, U, h => ⟨h.1, h.2.1, az_ack hn hg h.2.2⟩
  | [], _ :: _, _, _, h => h.elim
  | _ :: _, [], _, _, h => h.elim
theorem az_dats : ∀ {ds : List KSeg} {C C' : Int} {o : Nat}, Dats A B V R m Q false ds C C' o → AirZ A B V R D ds ((ds.map sgLen).map fun k => (true, k)) C C' M M
 | [], C, C', o, h => ⟨h.1, rfl⟩
 | x :: ds, C, C', o, ⟨o', d1, d2, d3, d4, d5⟩ => ⟨d1, d2, rfl, az_dats d4⟩
theorem az_more (hd : Dats A B V R m Q false ds C C' o) : ∀ {l : List KSeg} {z : List (Bool × Int)} {N U : Int}, AirZ A B V R D l z N C U M → AirZ A B V R D (l ++ ds) (z ++ (ds.map sgLen).map fun k => (true, k)) N C' U M
  | [], [], N, U, h => by
    obtain ⟨h1, h2⟩ := h
    subst h1 h2
    exact az_dats hd
  | x :: l, (true, k) :: z, N, U, h => ⟨h.1, h.2.1, h.2.2.1, az_more hd h.2.2.2⟩
  | x :: l, (false, k) :: z, N, U, h => ⟨h.1, h.2.1, az_more hd h.2.2⟩
  | [], _ :: _, _, _, h => h.elim
  | _ :: _, [], _, _, h => h.elim
theorem loop_sz (hR : ∀ x, R = some x → 2048 - (endZ q - q.rd) = x) (hp : AdTo A B) {lim : Int} : ∀ (f : Nat) (s : KCn) (C : Int) (l : List KSeg), FSl A B s q V U C w E ℓ → s.shut = false → cLeft s < f →
    ∃ s' ds, cLoop f s lim l = (s', l ++ ds) ∧ ds.map sgLen = cutZ f s.mss (oLim s.o lim - C) ∧ s'.owed = s.owed
  | 0, s, C, l, h, hs, hf => by omega
  | f + 1, s, C, l, h, hs, hf => by
    have hC := h.cur
    have hm := h.m
    by_cases hi : cIsP s lim = true
    · obtain ⟨k1, k2, k3, k4⟩ := h.piece hR hp hi
      have hlt : C < oLim s.o lim := by
        have hi' : oIs s.o s.o.cur lim s.mss = true := hi
        unfold oIs at hi'
        simp only [Bool.and_eq_true, decide_eq_true_eq] at hi'
        rw [← hC]; exact hi'.1
      have hst : cStep s lim = { s with o := oNext s.o lim s.mss, meas := (cStep s lim).meas, wh := (cStep s lim).wh } := by
        unfold cStep; split <;> rfl
      have e1 : qEnd (cStep s lim).o = qEnd s.o := by rw [hst]; rfl
      have e2 : (cStep s lim).shut = s.shut := by rw [hst]
      have e3 : (cStep s lim).mss = s.mss := by rw [hst]
      have e4 : oLim (cStep s lim).o lim = oLim s.o lim := by unfold oLim; rw [e1]
      have e5 : (cStep s lim).owed = s.owed := by rw [hst]
      have hl : cLeft (cStep s lim) < cLeft s := by
        unfold cLeft
        rw [e1, k1.cur, hC]
        have := k2.len
        have := (oLim_le (q := s.o) lim).2
        omega
      have hF : oFin s.o = qEnd s.o := by
        have := h.cl
        rw [hs] at this
        unfold qEnd; rw [this]; rfl
      have hle := (oLim_le (q := s.o) lim).2
      obtain ⟨s', ds, n1, n2, n3⟩ := loop_sz hR hp f (cStep s lim) _ (l ++ [cSegm s (cPc s lim)]) k1 (e2.trans hs) (by omega)
      refine ⟨s', cSegm s (cPc s lim) :: ds, ?_, ?_, n3.trans e5⟩
      · unfold cLoop
        rw [if_pos hi, n1, List.append_assoc]
        rfl
      · have ht : (if oLim s.o lim < oFin s.o then oLim s.o lim else oFin s.o) = oLim s.o lim := by
          split <;> omega
        rw [ht] at k4
        rw [List.map_cons, n2, e3, e4]
        conv => rhs; unfold cutZ
        rw [if_neg (show ¬ oLim s.o lim - C ≤ 0 by omega)]
        by_cases hc : s.mss < oLim s.o lim - C
        · rw [if_pos hc] at k4
          rw [if_pos hc, k4, show oLim s.o lim - (C + s.mss) = oLim s.o lim - C - s.mss by omega]
        · rw [if_neg hc] at k4
          rw [if_neg hc, k4, show oLim s.o lim - (C + (oLim s.o lim - C)) = 0 by omega]
          cases f <;> simp [cutZ]
    · have hn : ¬ C < oLim s.o lim := by
        intro hlt
        refine hi ?_
        show oIs s.o s.o.cur lim s.mss = true
        unfold oIs
        rw [hC, decide_eq_true hlt, decide_eq_true (show (1 : Int) ≤ s.mss by omega)]
        rfl
      refine ⟨s, [], ?_, ?_, rfl⟩
      · unfold cLoop; rw [if_neg hi, List.append_nil]
      · unfold cutZ; rw [if_pos (by omega)]; rfl
theorem out_sz (h : FSl A B s q V U C w E ℓ) (hs : s.shut = false) (hR : ∀ x, R = some x → 2048 - (endZ q - q.rd) = x) (hp : AdTo A B) (hco : COk s) : (cOut s).2.map sgLen = cutZ 2100 s.mss (sLim s U w E - C) := by
 have hu := h.u1
 have hl : cLimit s = U + (if w < E - U then w else E - U) := by
  unfold cLimit
  rw [if_neg (by rw [h.una]; omega), h.wd, h.pr, h.una]
  dsimp only
  rw [h.wnd]
  simp
 obtain ⟨s', ds, n1, n2, n3⟩ := loop_sz hR hp (lim := cLimit s) 2100 s C [] h hs (by have := cLeft_bd hco; omega)
 have e0 : ({ s with rs := [] } : KCn) = s := by
  have hr := h.rs
  obtain ⟨⟩ := s
  simp only at hr
  subst hr
  rfl
 have e1 : cFirstL s ([].map (cRst s)) = [] := by
  unfold cFirstL
  rw [if_neg (by rw [h.ag]; exact fun h => by cases h.1)]
  rfl
 have e2 : cOut s = cTail (s', ds) 0 := by
  unfold cOut
  conv => lhs; dsimp only
  rw [if_neg h.st0.1, e0, h.rs, e1, n1, List.nil_append]
  rfl
 have e3 : (cTail (s', ds) 0).2 = ds := by
  unfold cTail
  dsimp only
  rw [n3, h.ow]
  rfl
 rw [e2, e3, n2, hl]
 rfl
structure FMs (A B : KAd) (q : IQ) (V D : Int) (R : Option Int) (W : KWd) (mr : Int) (sr : Bool) (O : OQ) (m ℓ L : Int) (s r : KCn) (air : List KSeg) (x : MS) (N : Int) : Prop where
 fs : FSl A B s q V x.U x.C x.w (D + 2048) ℓ
 sh : s.shut = false
 mm : s.mss = m
 fr : FR A B r N V D R W mr sr O false false
 air : AirZ A B V R D air x.Z N x.C x.U N
 ll : L = (if qEnd s.o < D + 2048 then qEnd s.o else D + 2048)
 cl : x.C ≤ L
 ex : x.C = L ∨ x.C = x.U + x.w
 rw_ : ∀ z, R = some z → 2048 - (endZ q - q.rd) = z
theorem upTo_bd (L x C : Int) (h : C ≤ L) : C ≤ upTo L x C ∧ upTo L x C ≤ L := by
 unfold upTo
 split
 ·split <;> omega
 ·omega
theorem sLim_is (hL : L = (if qEnd s.o < D + 2048 then qEnd s.o else D + 2048)) : sLim s U w (D + 2048) = (if U + w < L then U + w else L) := by
 unfold sLim oLim
 rw [hL]
 split <;> split <;> first | omega | (split <;> first | omega | (split <;> omega))
theorem ackZ_bd {m w l n : Int} (hm : 8 ≤ m ∧ m ≤ 1000) (hw : m ≤ w) (hw2 : w ≤ 65535) (hn : 1 ≤ n) : w ≤ ackZ m w l n ∧ ackZ m w l n ≤ 65535 := by
 obtain ⟨q1, q2, q3, q4⟩ := quo_bd m w hm.1 hm.2 hw
 unfold ackZ minZ maxZ
 split <;> split <;> first | omega | (split <;> omega)
variable {l : List KSeg} {x : MS}
theorem FMs.step (h : FMs A B q V D R W mr sr O m ℓ L s r (g :: l) x N) (hp : AdTo A B) (hs : COk s) (hs1 : COk (cIn s g)) (hlen : (mstep m ℓ L x).Z.length ≤ 198) :
    ((g.ta = B.la ∧ g.tp = B.lp ∧ (cOut s).2 = [] ∧ (∃ N', FMs A B q V D R W mr sr O m ℓ L (cOut s).1 (cOut (cIn r g)).1 (l ++ (cOut (cIn r g)).2) (mstep m ℓ L x) N') ∧ muF (cOut s).1 (l ++ (cOut (cIn r g)).2) < muF s (g :: l) ∧ (l ++ (cOut (cIn r g)).2).length < 200) ∧ qEnd (cOut s).1.o = qEnd s.o ∧ (cOut s).1.st = s.st) ∨
    ((g.ta = A.la ∧ g.tp = A.lp ∧ (cOut r).2 = [] ∧ (∃ N', FMs A B q V D R W mr sr O m ℓ L (cOut (cIn s g)).1 (cOut r).1 (l ++ (cOut (cIn s g)).2) (mstep m ℓ L x) N') ∧ muF (cOut (cIn s g)).1 (l ++ (cOut (cIn s g)).2) < muF s (g :: l) ∧ (l ++ (cOut (cIn s g)).2).length < 200) ∧ qEnd (cOut (cIn s g)).1.o = qEnd s.o ∧ (cOut (cIn s g)).1.st = s.st) := by
  have hm := h.fs.m
  have hmm := h.mm
  have hu1 := h.fs.u1
  have hpb : okP B.lp ∧ okP B.rp := ⟨by rw [hp.lp]; exact hp.p1, by rw [hp.rp]; exact hp.p0⟩
  have hcur := h.fs.cur
  have hw1 := h.fs.w1
  have hL := h.ll
  have hex := h.ex
  have hcl := h.cl
  have hair := h.air
  have hee := h.fs.end_
  have hDN : D ≤ N ∧ 1 ≤ D := by
    obtain ⟨q', hh, ok, hn, hc, ho, hrd⟩ := h.fr.h
    have := (ok_open ok ho).1
    have := ok.rd1
    omega
  have hLQ : L ≤ qEnd s.o ∧ L ≤ D + 2048 := by rw [hL]; split <;> omega
  obtain ⟨X, xw, xU, xC⟩ := x
  dsimp only at hair hex hcl hcur hw1 hu1 hL hLQ
  have hfs := h.fs
  dsimp only at hfs
  obtain ⟨al1, al2, al3⟩ := az_len hair
  have hCd : xC ≤ D + 2048 ∧ xC ≤ qEnd s.o := by omega
  cases X with
  | nil => exact hair.elim
  | cons t X =>
    obtain ⟨b, n⟩ := t
    cases b with
    | true =>
      left
      obtain ⟨d1, d2, d3, d4⟩ := hair
      have hn1 := d1.len
      obtain ⟨l1, l2, l3⟩ := az_len d4
      have hsl := ba_size_len g d1.syn
      have hbs : (g.b.size : Int) ≤ sgLen g := by rw [hsl]; split <;> omega
      have k1 := h.fr.data hp d1 (by omega) (by omega) (by omega)
      rw [d2, d3] at k1
      obtain ⟨k2, k3⟩ := k1.out (by simp; omega) hpb
      obtain ⟨C', o2, n1, n2, n3, n4, n5, n6, n7, n8, n9⟩ := hfs.out h.rw_ hp hs
      have hlim := sLim_is (w := xw) (U := xU) hL
      have hCC : C' = xC := by
        rw [n3, hlim]
        rw [if_neg (by split <;> omega)]
      subst hCC
      obtain ⟨e1, e2⟩ := dats_nil n2
      rcases k3 with ⟨k3, _⟩ | ⟨_, g', k4, k5⟩
      · cases k3
      have k5' : Ack A B V g' (N + n) (D + 2048 - (N + n)) := by
        have e : 2048 - (N + n - (if false = true then (1 : Int) else 0) - D) = D + 2048 - (N + n) := by simp; omega
        rw [e] at k5; exact k5
      have k6 := az_ack (R := R) (n := n) (by omega) k5' d4
      have hl2 : (l ++ [g']).length ≤ 198 := by rw [(az_len k6).1]; exact hlen
      obtain ⟨a1, a2, a3, a4⟩ := d1.ad
      rw [k4]
      refine ⟨⟨a3.trans hp.la.symm, a4.trans hp.lp.symm, e1, ⟨N + n, n1, n5.trans h.sh, n6.trans hmm, k2, k6, ?_, hcl, hex, h.rw_⟩, ?_, by omega⟩, n4, n7⟩
      · rw [n4]; exact hL
      · unfold muF
        rw [n4, n1.cur, hcur, wt_app]
        have w1 : sgW g = 2 := by unfold sgW; rw [if_pos hn1]
        have w2 : sgW g' = 1 := by unfold sgW; rw [ack_len k5']; rfl
        simp only [wtA, w1, w2]
        omega
    | false =>
      right
      obtain ⟨d1, d2, d4⟩ := hair
      obtain ⟨l1, l2, l3⟩ := az_len d4
      obtain ⟨w', hw'⟩ : ∃ z, z = ackZ m xw ℓ n := ⟨_, rfl⟩
      have hwb := ackZ_bd (m := m) (w := xw) (l := ℓ) (n := n) (by omega) (by omega) (by omega) d2
      rw [← hw'] at hwb
      have hnn : xU + n - xU = n := by omega
      obtain ⟨f1, f2, f3, f4, f5, f6⟩ := hfs.ack hp d1 (by omega) (by omega) (by omega) (by rw [hnn, hmm, ← hw']; omega)
      obtain ⟨b1, b2⟩ := h.fr.none (by simp; omega) hpb
      obtain ⟨a1, a2, a3, a4⟩ := d1.ad
      obtain ⟨f7, f8⟩ := f5 (fun e => by rw [h.sh] at e; cases e.1)
      rw [hnn, hmm, ← hw', show xU + n + (D + 2048 - (xU + n)) = D + 2048 by omega] at f7
      have hs2 : (cIn s g).shut = false := f3.trans h.sh
      obtain ⟨C', o2, n1, n2, n3, n4, n5, n6, n7, n8, n9⟩ := f7.out h.rw_ hp hs1
      have hsz := out_sz f7 hs2 h.rw_ hp hs1
      have hL' : L = (if qEnd (cIn s g).o < D + 2048 then qEnd (cIn s g).o else D + 2048) := by rw [f1]; exact hL
      have hlim := sLim_is (w := w') (U := xU + n) hL'
      rw [hlim] at n3 hsz
      have hC' : C' = upTo L (xU + n + w') xC := by rw [n3]; rfl
      rw [hs2] at n2
      have hup := upTo_bd L (xU + n + w') xC hcl
      rw [← hC'] at hup
      have hsz' : (cOut (cIn s g)).2.map sgLen = cutZ 2100 m (C' - xC) := by
        rw [hsz, f4, hmm, hC']
        unfold upTo
        by_cases hc : xC < (if xU + n + w' < L then xU + n + w' else L)
        · rw [if_pos hc]
        · rw [if_neg hc]
          conv => lhs; unfold cutZ
          conv => rhs; unfold cutZ
          rw [if_pos (by omega), if_pos (by omega)]
      have k6 := az_more n2 d4
      rw [hsz'] at k6
      have hst : mstep m ℓ L ⟨(false, n) :: X, xw, xU, xC⟩ = ⟨X ++ (cutZ 2100 m (C' - xC)).map (fun k => (true, k)), w', xU + n, C'⟩ := by
        show (⟨_, _, _, _⟩ : MS) = _
        rw [← hw', ← hC']
      rw [hst] at hlen ⊢
      dsimp only at hlen
      have hl2 : (l ++ (cOut (cIn s g)).2).length ≤ 198 := by rw [(az_len k6).1]; exact hlen
      refine ⟨⟨a3.trans hp.ra, a4.trans hp.rp, b2, ⟨N, n1, n5.trans hs2, n6.trans (f4.trans hmm), b1, k6, ?_, hup.2, ?_, h.rw_⟩, ?_, by omega⟩, by rw [n4, f1], n7.trans f8⟩
      · rw [n4]; exact hL'
      · show C' = L ∨ C' = xU + n + w'
        by_cases h1 : xU + n + w' < L
        · simp only [if_pos h1] at n3
          by_cases h2 : xC < xU + n + w'
          · rw [if_pos h2] at n3; exact .inr n3
          · rw [if_neg h2] at n3
            rcases hex with e | e
            · exact .inl (n3.trans e)
            · omega
        · simp only [if_neg h1] at n3
          left
          by_cases h2 : xC < L
          · rw [if_pos h2] at n3; exact n3
          · rw [if_neg h2] at n3; omega
      · unfold muF
        rw [n4, f1, n1.cur, hcur, wt_app, wt_dats n2]
        have hdb := dats_bd n2
        have hwg : sgW g = 1 := by unfold sgW; rw [ack_len d1]; rfl
        simp only [wtA, hwg]
        omega
theorem FMs.done (h : FMs A B q V D R W mr sr O m ℓ L s r [] x N) : x.Z = [] ∧ x.U = L ∧ x.C = L ∧ N = L := by
  have hair := h.air
  cases hZ : x.Z with
  | nil =>
    rw [hZ] at hair
    obtain ⟨h1, h2⟩ := hair
    have h3 := h.ex
    have h4 := h.fs.w1
    have h5 := h.fs.m
    have h6 := h.cl
    exact ⟨rfl, by omega, by omega, by omega⟩
  | cons t X => rw [hZ] at hair; exact hair.elim
end
structure TZ (c : KCn) : Prop where
 tm : c.tm = ⟨true, 0, 0, 0⟩
 wh : 0 < c.meas → c.wh = c.now
section
variable {c : KCn} {g : KSeg}
theorem TZ.of {c' : KCn} (h : TZ c) (h1 : c'.tm = c.tm) (h2 : c'.meas = c.meas ∨ c'.meas = 0) (h3 : c'.wh = c.wh) (h4 : c'.now = c.now) : TZ c' := by
 refine ⟨h1.trans h.tm, fun hm => ?_⟩
 rw [h3, h4]
 refine h.wh ?_
 rcases h2 with e | e <;> omega
theorem TZ.settle (h : TZ c) : TZ (cSettle c) := by
 obtain ⟨x, hx, -⟩ := cSettle_is c
 rw [hx]
 exact h.of rfl (.inl rfl) rfl rfl
theorem TZ.ackd (h : TZ c) (a : Int) : TZ (cAckd c a) := by
 by_cases hc : 0 < c.meas ∧ c.meas ≤ a
 ·have e : cAckd c a = { cAckd c a with tm := cSampled c.tm (c.now - c.wh), meas := 0 } := by
   unfold cAckd
   simp only [if_pos hc]
  rw [e]
  refine ⟨?_, fun hm => absurd hm (by show ¬ (0 : Int) < 0; decide)⟩
  show cSampled c.tm (c.now - c.wh) = _
  rw [h.wh hc.1, Int.sub_self, h.tm]
  rfl
 ·have e : cAckd c a = { cAckd c a with tm := c.tm, meas := c.meas } := by
   unfold cAckd
   simp only [if_neg hc]
  rw [e]
  exact ⟨h.tm, h.wh⟩
theorem TZ.same (h : TZ c) (g : KSeg) : TZ (cSame c g) := by
 unfold cSame
 split
 ·exact h.of rfl (.inr rfl) rfl rfl
 ·exact h.of rfl (.inl rfl) rfl rfl
theorem TZ.takes (h : TZ c) (g : KSeg) (p : Int) : TZ (cTakes c g p) := by
 unfold cTakes cTakes1
 refine h.of ?_ (.inl ?_) ?_ ?_
 all_goals
  dsimp only
  split
  ·split
   ·split
    ·rfl
    ·split <;> rfl
   ·rfl
  ·split <;> rfl
theorem TZ.acks2 (h : TZ c) (g : KSeg) (p k : Int) : TZ (cAcks2 c g p k).1 := by
 by_cases hs : c.o.sent < k
 ·unfold cAcks2
  rw [if_pos hs]
  exact h.of rfl (.inl rfl) rfl rfl
 ·obtain ⟨c1, h1⟩ : ∃ z : KCn, z = if c.o.una < k then cAckd c k else if k = c.o.una ∧ sgLen g = 0 ∧ c.o.una < c.o.cur ∧ g.win = c.wnd then cSame c g else c := ⟨_, rfl⟩
  obtain ⟨c2, h2⟩ : ∃ z : KCn, z = if c.o.una < k ∨ (k = c.o.una ∧ (c.wat < p ∨ (p = c.wat ∧ c.wak ≤ k))) then { c1 with wnd := g.win, wat := p, wak := k } else c1 := ⟨_, rfl⟩
  rw [acks2_of hs h1 h2]
  have e1 : TZ c1 := by
   rw [h1]
   split
   ·exact h.ackd k
   ·split
    ·exact h.same g
    ·exact h
  have e2 : TZ c2 := by
   rw [h2]
   split
   ·exact e1.of rfl (.inl rfl) rfl rfl
   ·exact e1
  split
  ·split
   ·exact e2.of rfl (.inl rfl) rfl rfl
   ·split
    ·exact e2.of rfl (.inl rfl) rfl rfl
    ·split
     ·exact e2.of rfl (.inl rfl) rfl rfl
     ·exact e2
  ·exact e2
theorem TZ.acks (h : TZ c) (g : KSeg) (p : Int) : TZ (cAcks c g p).1 := by
 unfold cAcks
 split
 ·split
  ·exact h.of rfl (.inl rfl) rfl rfl
  ·refine TZ.acks2 ?_ g p _
   exact h.of rfl (.inl rfl) rfl rfl
 ·exact h.acks2 g p _
theorem TZ.next (h : TZ c) (g : KSeg) : TZ (cNext c g) := by
 unfold cNext
 split
 ·split <;> exact h.of rfl (.inl rfl) rfl rfl
 ·split
  ·exact h.of rfl (.inl rfl) rfl rfl
  ·split
   ·exact h.of rfl (.inl rfl) rfl rfl
   ·split
    ·split
     ·exact (h.acks g _).takes g _
     ·exact h.acks g _
    ·exact h
theorem TZ.in_ (h : TZ c) (h1 : c.st ≠ 1) (g : KSeg) : TZ (cIn c g) := by
 unfold cIn
 split
 ·exact h
 ·try rw [if_neg h1]
  exact (h.next g).settle
theorem TZ.loop (lim : Int) : ∀ (f : Nat) (c : KCn) (l : List KSeg), TZ c → TZ (cLoop f c lim l).1
  | 0, c, l, h => h
  | f + 1, c, l, h => by
    unfold cLoop
    split
    · refine TZ.loop lim f _ _ ?_
      unfold cStep
      split
      · exact ⟨h.tm, fun _ => rfl⟩
      · exact h.of rfl (.inl rfl) rfl rfl
    · exact h
theorem TZ.out (h : TZ c) : TZ (cOut c).1 := by
 unfold cOut
 dsimp only
 split
 ·exact h.of rfl (.inl rfl) rfl rfl
 ·unfold cTail
  refine TZ.settle ?_
  refine TZ.of (TZ.loop _ _ _ _ ?_) rfl (.inl rfl) rfl rfl
  exact h.of rfl (.inl rfl) rfl rfl
theorem TZ.write (h : TZ c) (S : ByteArray) : TZ (cWrite c S).1 := by
 unfold cWrite
 split
 ·exact h
 ·split
  ·exact h
  ·exact TZ.settle (h.of rfl (.inl rfl) rfl rfl)
end
end Go.Proofs.Ytfpifahkpkjfgaa
